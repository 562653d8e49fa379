/- The law's great literal: the details, one more behind them; what holds when such operations have come up. -/
import Derived.Test.YtibhohpamnpkcaaGreatDoorRouteOrderM31
import Derived.Test.YtibhohpamnpkcaaGreatDoorRouteOrderM29

namespace Go.Proofs.YtibhohpamnpkcaaGreatDoor
open Go.RowKit

/-- What the statement is about. -/
structure C8 where
  w0 : World
  av : Option Addr
  vn : Nat
  vcap : Nat
  da : Option Addr
  dn : Nat
  dcap : Nat
  gA : Nat
  app : Array Value
  rule : Array Value
  us : List (Value × Value)
def G8 (c : C8) : Nat → (Nat → Bool) → (Nat → Value) → World → Prop
  | 0 => fun _ val _ => val 34 = .pointer (some ⟨c.gA, 1, none⟩)
  | 1 => fun _ val _ => val 35 = .slice c.av c.vn c.vcap
  | 2 => fun L val w => L 5 = false → OwnD w c.w0.heap.size (val 36) []
  | 3 => fun _ val _ => val 37 = .pointer (some ⟨c.gA, 0, none⟩)
  | 4 => fun _ val _ => val 38 = .slice c.da c.dn c.dcap
  | 5 => fun L val w => L 12 = false → OwnD w c.w0.heap.size (val 39) c.us
  | 6 => fun _ val _ => val 40 = .agg c.app
  | 7 => fun _ val w => ∃ k, val 41 = .slice (some ⟨k, 0, none⟩) 1 1 ∧ BlkAt w k 57 c.app
  | 8 => fun _ val _ => val 42 = .agg c.rule
  | 9 => fun _ val w => ∃ k, val 43 = .slice (some ⟨k, 0, none⟩) 1 1 ∧ BlkAt w k 62 c.rule
  | 10 => fun L val _ => L 7 = true ∧ L 9 = true ∧ val 44 = .agg #[val 41, val 43]
  | 11 => fun L val w => L 7 = true ∧ L 9 = true ∧ (∃ k, val 45 = .slice (some ⟨k, 0, none⟩) 1 1 ∧ BlkAt w k 70 #[val 41, val 43]) ∧ (L 2 = true → L 5 = false → (val 36).ownBlock ≠ (val 45).ownBlock) ∧ (L 5 = true → L 12 = false → (val 39).ownBlock ≠ (val 45).ownBlock)
  | 12 => fun L val w => L 7 = true ∧ L 9 = true ∧ L 11 = true ∧ L 5 = true ∧ OwnD w c.w0.heap.size (val 46) (c.us ++ [(val 41, val 43)])
  | 13 => fun L val _ => L 1 = true ∧ L 12 = true ∧ val 47 = .agg #[val 46, val 35]
  | 14 => fun L val w => ∃ k, val 10 = .pointer (some ⟨k, 0, none⟩) ∧ c.w0.heap.size ≤ k ∧ (L 15 = false → BlkAt w k 55 #[.slice none 0 0, .slice none 0 0])
  | 15 => fun L val w => L 1 = true ∧ L 12 = true ∧ L 14 = true ∧ ∃ k, val 10 = .pointer (some ⟨k, 0, none⟩) ∧ BlkAt w k 55 #[val 46, val 35]
  | _ => fun _ _ _ => True
structure D8 (c : C8) (L : Nat → Bool) (val : Nat → Value) (w : World) : Prop where
  low : Below c.w0.heap.size c.w0 w
  g : ∀ i, L i = true → G8 c i L val w
structure Agree8 (L : Nat → Bool) (val val' : Nat → Value) : Prop where
  a0 : L 0 = true → val' 34 = val 34
  a1 : L 1 = true → val' 35 = val 35
  a2 : L 2 = true → val' 36 = val 36
  a3 : L 3 = true → val' 37 = val 37
  a4 : L 4 = true → val' 38 = val 38
  a5 : L 5 = true → val' 39 = val 39
  a6 : L 6 = true → val' 40 = val 40
  a7 : L 7 = true → val' 41 = val 41
  a8 : L 8 = true → val' 42 = val 42
  a9 : L 9 = true → val' 43 = val 43
  a10 : L 10 = true → val' 44 = val 44
  a11 : L 11 = true → val' 45 = val 45
  a12 : L 12 = true → val' 46 = val 46
  a13 : L 13 = true → val' 47 = val 47
  a14 : L 14 = true → val' 10 = val 10
/-- A world that has gone on: the rows that may have been written. -/
structure Gone8 (c : C8) (L L' : Nat → Bool) (val val' : Nat → Value) (w w' : World) (row : Option Nat) : Prop where
  grown : w.grownBy w' row
  mono : ∀ j, L j = true → L' j = true
  r2 : L' 5 = false → row = none
  r5 : L 5 = true → L' 12 = false → row = none
  typ : ∀ k t d, BlkAt w k t d → t ≠ 70 → (t ≠ 55 ∨ L' 15 = false) → row ≠ some k
  r11 : L 11 = true → row = none ∨ (val 45).ownBlock ≠ row
  r12 : L 12 = true → row = none ∨ (val 46).ownBlock ≠ row
  r15 : L 15 = true → row = none
  n36 : L 11 = true → L' 2 = true → L' 5 = false → (val' 36).ownBlock ≠ (val 45).ownBlock
  n39 : L 11 = true → L' 5 = true → L' 12 = false → (val' 39).ownBlock ≠ (val 45).ownBlock
theorem BlkAt.grown {w w' : World} {k : Nat} {t : TypeId} {c : Array Value} {row : Option Nat} (h : BlkAt w k t c) (hg : w.grownBy w' row) (hne : row ≠ some k) : BlkAt w' k t c := (hg.block k h.lt (fun e => hne e.symm)).trans h
theorem OwnD.grown {w w' : World} {base : Nat} {v : Value} {us : List (Value × Value)} (h : OwnD w base v us) (hg : w.grownBy w' none) : OwnD w' base v us := World.ownsRow.kept h hg (by cases v.ownBlock <;> simp)
theorem OwnD.far {w w' : World} {base : Nat} {v : Value} {us : List (Value × Value)} {row : Option Nat} (h : OwnD w base v us) (hg : w.grownBy w' row) (hr : row = none ∨ v.ownBlock ≠ row) : OwnD w' base v us := by
  refine ⟨h.1, ?_⟩
  rcases h.2 with h2 | ⟨k, cap, cur, e, h3, h4, h5⟩
  · exact .inl h2
  · refine .inr ⟨k, cap, cur, e, h3, (hg.block k (lt_of_block h4) (fun e' => ?_)).trans h4, h5⟩
    rcases hr with hr | hr
    · rw [hr] at e'; cases e'
    · rw [e] at hr; exact hr e'
theorem OwnD.typed {w : World} {base k : Nat} {v : Value} {us : List (Value × Value)} {t : TypeId} {c : Array Value} (h : OwnD w base v us) (hk : v.ownBlock = some k) (hb : BlkAt w k t c) : t = 70 := by
  rcases h.2 with ⟨e0, _⟩ | ⟨g, cap, cur, e0, _, h4, _⟩
  · rw [e0] at hk; cases hk
  · rw [e0] at hk
    injection hk with hk
    subst hk
    unfold BlkAt at hb
    rw [hb] at h4
    injection h4 with h4
    injection h4 with _ h4
theorem G8.keep {c : C8} {L L' : Nat → Bool} {val val' : Nat → Value} {w w' : World} {row : Option Nat} (hA : Agree8 L val val') (hG : Gone8 c L L' val val' w w' row) : ∀ i, L i = true → G8 c i L val w → G8 c i L' val' w'
  | 0, h, g => (hA.a0 h).trans g
  | 1, h, g => (hA.a1 h).trans g
  | 2, h, g => fun h5 => by
    have h5' : L 5 = false := by cases hx : L 5 with
      | false => rfl
      | true => rw [hG.mono 5 hx] at h5; cases h5
    rw [hA.a2 h]
    have hg := hG.grown
    rw [hG.r2 h5] at hg
    exact OwnD.grown (g h5') hg
  | 3, h, g => (hA.a3 h).trans g
  | 4, h, g => (hA.a4 h).trans g
  | 5, h, g => fun h12 => by
    have h12' : L 12 = false := by cases hx : L 12 with
      | false => rfl
      | true => rw [hG.mono 12 hx] at h12; cases h12
    rw [hA.a5 h]
    have hg := hG.grown
    rw [hG.r5 h h12] at hg
    exact OwnD.grown (g h12') hg
  | 6, h, g => (hA.a6 h).trans g
  | 7, h, g => by
    obtain ⟨k, e, hb⟩ := g
    exact ⟨k, (hA.a7 h).trans e, hb.grown hG.grown (hG.typ _ _ _ hb (by decide) (.inl (by decide)))⟩
  | 8, h, g => (hA.a8 h).trans g
  | 9, h, g => by
    obtain ⟨k, e, hb⟩ := g
    exact ⟨k, (hA.a9 h).trans e, hb.grown hG.grown (hG.typ _ _ _ hb (by decide) (.inl (by decide)))⟩
  | 10, h, g => by
    obtain ⟨g1, g2, g3⟩ := g
    refine ⟨hG.mono _ g1, hG.mono _ g2, ?_⟩
    rw [hA.a10 h, hA.a7 g1, hA.a9 g2]; exact g3
  | 11, h, g => by
    obtain ⟨g1, g2, ⟨k, e, hb⟩, g3, g4⟩ := g
    refine ⟨hG.mono _ g1, hG.mono _ g2, ⟨k, (hA.a11 h).trans e, ?_⟩, ?_, ?_⟩
    · rw [hA.a7 g1, hA.a9 g2]
      refine hb.grown hG.grown ?_
      rcases hG.r11 h with h' | h'
      · rw [h']; simp
      · intro e'
        rw [e, e'] at h'
        exact h' rfl
    · rw [hA.a11 h]; exact hG.n36 h
    · rw [hA.a11 h]; exact hG.n39 h
  | 12, h, g => by
    obtain ⟨g1, g2, g3, g4, g5⟩ := g
    refine ⟨hG.mono _ g1, hG.mono _ g2, hG.mono _ g3, hG.mono _ g4, ?_⟩
    rw [hA.a12 h, hA.a7 g1, hA.a9 g2]
    exact OwnD.far g5 hG.grown (hG.r12 h)
  | 13, h, g => by
    obtain ⟨g1, g2, g3⟩ := g
    refine ⟨hG.mono _ g1, hG.mono _ g2, ?_⟩
    rw [hA.a13 h, hA.a12 g2, hA.a1 g1]; exact g3
  | 14, h, g => by
    obtain ⟨k, e, hk, hb⟩ := g
    refine ⟨k, (hA.a14 h).trans e, hk, fun h' => ?_⟩
    have hb' := hb (by cases hx : L 15 with
      | false => rfl
      | true => rw [hG.mono 15 hx] at h'; cases h')
    exact hb'.grown hG.grown (hG.typ _ _ _ hb' (by decide) (.inr h'))
  | 15, h, g => by
    obtain ⟨g1, g2, g3, k, e, hb⟩ := g
    refine ⟨hG.mono _ g1, hG.mono _ g2, hG.mono _ g3, k, (hA.a14 g3).trans e, ?_⟩
    rw [hA.a12 g2, hA.a1 g1]
    exact hb.grown hG.grown (by rw [hG.r15 h]; simp)
  | n + 16, _, _ => trivial
theorem D8.next {c : C8} {L L' : Nat → Bool} {val val' : Nat → Value} {w w' : World} {row : Option Nat} (h : D8 c L val w) (i0 : Nat) (hL : ∀ j, j ≠ i0 → L' j = true → L j = true) (hlow : Below c.w0.heap.size c.w0 w') (hA : Agree8 L val val') (hG : Gone8 c L L' val val' w w' row) (hnew : G8 c i0 L' val' w') : D8 c L' val' w' := by
  refine ⟨hlow, fun i hi => ?_⟩
  by_cases hii : i = i0
  · subst hii; exact hnew
  · have := hL i hii hi
    exact G8.keep hA hG i this (h.g i this)
theorem Gone8.still {c : C8} {L L' : Nat → Bool} {val val' : Nat → Value} {w w' : World} (h : D8 c L val w) (hA : Agree8 L val val') (hg : w.grownBy w' none) (hm : ∀ j, L j = true → L' j = true) (h2 : L' 2 = true → L 2 = true) (h5 : L' 5 = true → L 5 = true) : Gone8 c L L' val val' w w' none where
  grown := hg
  mono := hm
  r2 := fun _ => rfl
  r5 := fun _ _ => rfl
  typ := fun k t d _ _ _ => by simp
  r11 := fun _ => .inl rfl
  r12 := fun _ => .inl rfl
  r15 := fun _ => rfl
  n36 := fun h11 h2' h5' => by
    rw [hA.a2 (h2 h2')]
    refine (h.g 11 h11).2.2.2.1 (h2 h2') ?_
    cases hx : L 5 with
    | false => rfl
    | true => rw [hm 5 hx] at h5'; cases h5'
  n39 := fun h11 h5' h12' => by
    rw [hA.a5 (h5 h5')]
    refine (h.g 11 h11).2.2.2.2 (h5 h5') ?_
    cases hx : L 12 with
    | false => rfl
    | true => rw [hm 12 hx] at h12'; cases h12'
theorem BlkAt.one {w : World} {k : Nat} {t t' : TypeId} {c c' : Array Value} (h : BlkAt w k t c) (h' : BlkAt w k t' c') : t = t' := by
  unfold BlkAt at h h'
  rw [h] at h'
  injection h' with h'
  injection h' with _ h'
theorem low_alloc {B : Nat} {w0 w : World} (h : Below B w0 w) (hB : B ≤ w.heap.size) (o : Obj) : Below B w0 (w.alloc o) := h.alloc hB o
theorem grown_alloc (w : World) (o : Obj) : w.grownBy (w.alloc o) none := below_grownBy (below_alloc w o) none
theorem grown_reflD (w : World) : w.grownBy w none := below_grownBy (Below.refl _ _) none
theorem grown_setRow (w : World) (g : Nat) (cs : Array Value) : w.grownBy (w.setRow g cs) (some g) := ⟨rfl, rfl, rfl, by simp, fun k _ hne => setRow_other w g k cs (by rintro rfl; exact hne rfl)⟩
theorem low_grow {B : Nat} {w0 w w' : World} {row : Option Nat} (h : Below B w0 w) (hB : B ≤ w.heap.size) (hg : w.grownBy w' row) (hr : ∀ g, row = some g → B ≤ g) : Below B w0 w' :=
  ⟨hg.os.trans h.os, hg.tape.trans h.tape, hg.output.trans h.output, Nat.le_trans h.size hg.size, fun k hk => (hg.block k (by omega) (fun e => by have := hr k e.symm; omega)).trans (h.block k hk)⟩
theorem wp_run {P : Program} {o : Oper} {a : Act} {w w' : World} {K : Act → World → Prop} {Q : Exit → Act → World → Prop} {v : Value} (hr : (execOp a.eval o).run P w = .ok (.value v) w') (h : K (a.put o.dst v) w') : Oper.wp P o a w K Q := by
  unfold Oper.wp; rw [hr]; exact h
theorem wp_skip {P : Program} {o : Oper} {a : Act} {w w' : World} {K : Act → World → Prop} {Q : Exit → Act → World → Prop} (hr : (execOp a.eval o).run P w = .ok .skip w') (h : K (a.put o.dst undef) w') : Oper.wp P o a w K Q := by
  unfold Oper.wp; rw [hr]; exact h
theorem Frm.slot {ops : Array Oper} {a0 a : Act} {L : Nat → Bool} (h : Frm ops a0 L a) (t : Nat) (hb : (ops.all fun o => o.dst != some t) = true) : valA a t = valA a0 t := by
  refine h.old t fun i o ho _ e => ?_
  rw [Array.all_eq_true_iff_forall_mem] at hb
  have := hb o (Array.mem_of_getElem? ho)
  rw [e] at this
  simp at this
end Go.Proofs.YtibhohpamnpkcaaGreatDoor

/- The law's second literal: one detail, and all others behind it. -/
namespace Go.Proofs.YtibhohpamnpkcaaGreatDoor
open Go.RowKit

structure C20 where
  w0 : World
  av : Option Addr
  vn : Nat
  vcap : Nat
  da : Option Addr
  dn : Nat
  dcap : Nat
  gA : Nat
  pr : Value × Value
  us : List (Value × Value)
def G20 (c : C20) : Nat → (Nat → Bool) → (Nat → Value) → World → Prop
  | 0 => fun _ val _ => val 78 = .pointer (some ⟨c.gA, 1, none⟩)
  | 1 => fun _ val _ => val 79 = .slice c.av c.vn c.vcap
  | 2 => fun _ val _ => val 80 = .agg #[c.pr.1, c.pr.2]
  | 3 => fun L val w => L 6 = false → OwnD w c.w0.heap.size (val 81) [c.pr]
  | 4 => fun _ val _ => val 82 = .pointer (some ⟨c.gA, 0, none⟩)
  | 5 => fun _ val _ => val 83 = .slice c.da c.dn c.dcap
  | 6 => fun _ val w => OwnD w c.w0.heap.size (val 84) (c.pr :: c.us)
  | 7 => fun L val _ => L 1 = true ∧ L 6 = true ∧ val 85 = .agg #[val 84, val 79]
  | 8 => fun L val w => ∃ k, val 14 = .pointer (some ⟨k, 0, none⟩) ∧ c.w0.heap.size ≤ k ∧ (L 9 = false → BlkAt w k 55 #[.slice none 0 0, .slice none 0 0])
  | 9 => fun L val w => L 1 = true ∧ L 6 = true ∧ L 8 = true ∧ ∃ k, val 14 = .pointer (some ⟨k, 0, none⟩) ∧ BlkAt w k 55 #[val 84, val 79]
  | _ => fun _ _ _ => True
structure D20 (c : C20) (L : Nat → Bool) (val : Nat → Value) (w : World) : Prop where
  low : Below c.w0.heap.size c.w0 w
  g : ∀ i, L i = true → G20 c i L val w
structure Agree20 (L : Nat → Bool) (val val' : Nat → Value) : Prop where
  a0 : L 0 = true → val' 78 = val 78
  a1 : L 1 = true → val' 79 = val 79
  a2 : L 2 = true → val' 80 = val 80
  a3 : L 3 = true → val' 81 = val 81
  a4 : L 4 = true → val' 82 = val 82
  a5 : L 5 = true → val' 83 = val 83
  a6 : L 6 = true → val' 84 = val 84
  a7 : L 7 = true → val' 85 = val 85
  a8 : L 8 = true → val' 14 = val 14
structure Gone20 (c : C20) (L L' : Nat → Bool) (val : Nat → Value) (w w' : World) (row : Option Nat) : Prop where
  grown : w.grownBy w' row
  mono : ∀ j, L j = true → L' j = true
  r3 : L' 6 = false → row = none
  typ : ∀ k t d, BlkAt w k t d → t ≠ 70 → (t ≠ 55 ∨ L' 9 = false) → row ≠ some k
  r6 : L 6 = true → row = none ∨ (val 84).ownBlock ≠ row
  r9 : L 9 = true → row = none
theorem G20.keep {c : C20} {L L' : Nat → Bool} {val val' : Nat → Value} {w w' : World} {row : Option Nat} (hA : Agree20 L val val') (hG : Gone20 c L L' val w w' row) : ∀ i, L i = true → G20 c i L val w → G20 c i L' val' w'
  | 0, h, g => (hA.a0 h).trans g
  | 1, h, g => (hA.a1 h).trans g
  | 2, h, g => (hA.a2 h).trans g
  | 3, h, g => fun h5 => by
    have h5' : L 6 = false := by cases hx : L 6 with
      | false => rfl
      | true => rw [hG.mono 6 hx] at h5; cases h5
    rw [hA.a3 h]
    have hg := hG.grown
    rw [hG.r3 h5] at hg
    exact OwnD.grown (g h5') hg
  | 4, h, g => (hA.a4 h).trans g
  | 5, h, g => (hA.a5 h).trans g
  | 6, h, g => by
    show OwnD _ _ (val' 84) _
    rw [hA.a6 h]
    exact OwnD.far g hG.grown (hG.r6 h)
  | 7, h, g => by
    obtain ⟨g1, g2, g3⟩ := g
    refine ⟨hG.mono _ g1, hG.mono _ g2, ?_⟩
    rw [hA.a7 h, hA.a6 g2, hA.a1 g1]; exact g3
  | 8, h, g => by
    obtain ⟨k, e, hk, hb⟩ := g
    refine ⟨k, (hA.a8 h).trans e, hk, fun h' => ?_⟩
    have hb' := hb (by cases hx : L 9 with
      | false => rfl
      | true => rw [hG.mono 9 hx] at h'; cases h')
    exact hb'.grown hG.grown (hG.typ _ _ _ hb' (by decide) (.inr h'))
  | 9, h, g => by
    obtain ⟨g1, g2, g3, k, e, hb⟩ := g
    refine ⟨hG.mono _ g1, hG.mono _ g2, hG.mono _ g3, k, (hA.a8 g3).trans e, ?_⟩
    rw [hA.a6 g2, hA.a1 g1]
    exact hb.grown hG.grown (by rw [hG.r9 h]; simp)
  | n + 10, _, _ => trivial
theorem D20.next {c : C20} {L L' : Nat → Bool} {val val' : Nat → Value} {w w' : World} {row : Option Nat} (h : D20 c L val w) (i0 : Nat) (hL : ∀ j, j ≠ i0 → L' j = true → L j = true) (hlow : Below c.w0.heap.size c.w0 w') (hA : Agree20 L val val') (hG : Gone20 c L L' val w w' row) (hnew : G20 c i0 L' val' w') : D20 c L' val' w' := by
  refine ⟨hlow, fun i hi => ?_⟩
  by_cases hii : i = i0
  · subst hii; exact hnew
  · have := hL i hii hi
    exact G20.keep hA hG i this (h.g i this)
theorem Gone20.still {c : C20} {L L' : Nat → Bool} {val : Nat → Value} {w w' : World} (hg : w.grownBy w' none) (hm : ∀ j, L j = true → L' j = true) : Gone20 c L L' val w w' none where
  grown := hg
  mono := hm
  r3 := fun _ => rfl
  typ := fun k t d _ _ _ => by simp
  r6 := fun _ => .inl rfl
  r9 := fun _ => rfl
theorem OwnD.lit1 (w : World) (p q : Value) : OwnD (w.alloc (.cells #[p, q] 70)) w.heap.size (.slice (some ⟨w.heap.size, 0, none⟩) 1 1) [(p, q)] := World.ownsRow_lit w #[p, q] 1 (Nat.le_refl _) (by decide) rfl
/-- A rule that wants nothing, and lets nothing through. -/
def noneRu : Ru := ⟨⟨⟨#[]⟩, ⟨#[]⟩, ⟨#[]⟩, false, false, false, none, 0, 0, true, false, false⟩, []⟩
/-- What the second literal is: a row with one detail ahead, and its association. -/
def Post20 (ds : List Dt) (app : ByteArray × ByteArray) (av : Option Addr) (vn vcap : Nat) (w : World) (p : Value) (wx : World) : Prop := ∃ (k : Nat) (b : Option Addr) (c : Nat), p = .pointer (some ⟨k, 0, none⟩) ∧ BlkAt wx k 55 #[.slice b (ds.length + 1) c, .slice av vn vcap] ∧ DetsSl wx b (⟨[app], [noneRu]⟩ :: ds) ∧ Below w.heap.size w wx
theorem slP_of {w : World} {ds : List Dt} {us : List (Value × Value)} (hul : us.length = ds.length) (hue : ∀ (i : Nat) (d : Dt), ds[i]? = some d → ∃ u, us[i]? = some u ∧ DtV w u d) : SlP us := by
  intro u hu
  obtain ⟨i, hiu⟩ := List.getElem?_of_mem hu
  obtain ⟨d, hd⟩ : ∃ d, ds[i]? = some d := ⟨_, List.getElem?_eq_getElem (by have := (List.getElem?_eq_some_iff.1 hiu).1; omega)⟩
  obtain ⟨u', hu', hdv⟩ := hue i d hd
  rw [hiu] at hu'
  obtain rfl := Option.some.inj hu'
  obtain ⟨⟨a, c, e, _⟩, ⟨a', c', e', _⟩⟩ := hdv
  exact ⟨⟨_, _, _, e⟩, ⟨_, _, _, e'⟩⟩
end Go.Proofs.YtibhohpamnpkcaaGreatDoor
