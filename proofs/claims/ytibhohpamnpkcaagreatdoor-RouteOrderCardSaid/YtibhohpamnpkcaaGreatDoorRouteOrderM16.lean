/- label.Shown; the reference's; what is shown is told back. -/
import Derived.Test.YtibhohpamnpkcaaGreatDoorRouteOrderM12
import Derived.Test.YtibhohpamnpkcaaGreatDoorRouteOrderM15
import Derived.Test.YtibhohpamnpkcaaGreatDoorRouteOrderM6
import Derived.Test.YtibhohpamnpkcaaGreatDoorRouteOrderM7
import Derived.Test.YtibhohpamnpkcaaGreatDoorRouteOrderM1
import Derived.Laws.OwnMore
import Derived.Deep.OwnRows
import Derived.Maps.AppendAt
import Derived.Test.YtibhohpamnpkcaaGreatDoorRouteOrderM10
import Derived.Test.YtibhohpamnpkcaaGreatDoorRouteOrderM9
import Derived.Test.YtibhohpamnpkcaaGreatDoorRouteOrderM4
import Derived.Test.YtibhohpamnpkcaaGreatDoorRouteOrderM11
import Derived.Lib.SlTrimSet

namespace Go.Proofs.YtibhohpamnpkcaaGreatDoor
open Go.RowKit

/-- How a label is shown. -/
def shownL (s : ByteArray) : ByteArray := match labD s with | some l => ⟨(putAll l).toArray⟩ | none => s
theorem shownL_some {s : ByteArray} {l : List Nat} (h : labD s = some l) : shownL s = ⟨(putAll l).toArray⟩ := by unfold shownL; rw [h]
theorem shownL_none {s : ByteArray} (h : labD s = none) : shownL s = s := by unfold shownL; rw [h]
theorem coded_of_lab {s : ByteArray} {l : List Nat} (h : labD s = some l) : codedB s = true := by
  obtain ⟨h1, _⟩ := labD_inv h
  have hp : xnL <+: s.data.toList := List.isPrefixOf_iff_prefix.1 h1
  obtain ⟨r, hr⟩ := hp
  have hl : s.data.toList.length = s.size := rfl
  rw [← hr] at hl
  simp [xnL] at hl
  have h2 : byteAt s 2 = 45 := by unfold byteAt; rw [← hr]; rfl
  have h3 : byteAt s 3 = 45 := by unfold byteAt; rw [← hr]; rfl
  exact decide_eq_true ⟨by omega, h2, h3⟩
theorem right_inv {s : ByteArray} (h : (rightL s).1 = 0) : s.size ≤ 63 ∧ s.size ≠ 0 ∧ badAt s s.size 0 = none ∧ fineB s = true := by
  by_cases h0 : s.size = 0
  · rw [rightL_empty h0] at h; cases h
  · by_cases h1 : 63 < s.size
    · rw [rightL_long h0 h1] at h; cases h
    · cases hb : badAt s s.size 0 with
      | some i => rw [rightL_bad h0 h1 hb] at h; cases h
      | none =>
        rw [rightL_fine h0 h1 hb] at h
        cases hf : fineB s with
        | true => exact ⟨by omega, h0, rfl, rfl⟩
        | false => rw [hf] at h; cases h
theorem may_small {c : Nat} (h : mayB c = true) : smallN c = c := by
  unfold smallN
  rw [if_neg]
  intro hh
  unfold mayB at h
  have e1 : smallZ (c : Int) = false := decide_eq_false (by omega)
  have e2 : charZ (c : Int) = false := char_out (by unfold inSpan; omega)
  rw [e1, e2] at h
  cases h
theorem badC_none : ∀ (l : List Nat) (k : Nat), (∀ c ∈ l, mayB c = true) → badC l k = none := by
  intro l
  induction l with
  | nil => intro k _; rfl
  | cons c l ih => intro k h; rw [badC_next (h c (by simp))]; exact ih _ fun x hx => h x (by simp [hx])
theorem putAll_le4 (l : List Nat) : (putAll l).length ≤ 4 * l.length := by
  induction l with
  | nil => exact Nat.zero_le _
  | cons c l ih => rw [putAll_cons, List.length_append, List.length_cons]; have := putL_le c; omega
theorem shown_size {s : ByteArray} (h : (rightL s).1 = 0) : (shownL s).size ≤ 1024 := by
  obtain ⟨h1, _⟩ := right_inv h
  cases hl : labD s with
  | none => rw [shownL_none hl]; omega
  | some l =>
    rw [shownL_some hl]
    obtain ⟨_, h2, _⟩ := labD_inv hl
    have h3 := (decE_facts h2).2
    have h4 := putAll_le4 l
    show (putAll l).toArray.size ≤ 1024
    simp
    omega
/-- What is shown is told back. -/
theorem shown_back {s : ByteArray} (h : (rightL s).1 = 0) : asciiL (shownL s) = .ok s := by
  obtain ⟨h1, h2, h3, h4⟩ := right_inv h
  cases hl : labD s with
  | none => rw [shownL_none hl]; exact ascii_fix h
  | some l =>
    rw [shownL_some hl]
    obtain ⟨p1, p2, p3, p4, p5, p6⟩ := labD_inv hl
    obtain ⟨f1, f2⟩ := decE_facts p2
    have hmay := List.all_eq_true.1 p3
    have hc := chrs_put l fun c hc => (rightC_iff c).2 (f1 c hc)
    have hlow : lowerS ⟨(putAll l).toArray⟩ = ⟨(putAll l).toArray⟩ := by
      have e : lowerS ⟨(putAll l).toArray⟩ = ⟨((putAll l).map lowerB).toArray⟩ := rfl
      have e2 : l.map smallN = l := by
        have := List.map_congr_left (l := l) (f := smallN) (g := id) fun c hc => may_small (hmay c hc)
        rw [this, List.map_id]
      rw [e, lower_all l fun c hc => (rightC_iff c).2 (f1 c hc), e2]
    rw [asciiL_wide (by rw [hc]) (by rw [hc]; exact p4), hlow, lowC_ok (by rw [hc]), hc]
    have hp : xnL <+: s.data.toList := List.isPrefixOf_iff_prefix.1 p1
    obtain ⟨r, hr⟩ := hp
    have hbr : (bodyS s).data.toList = r := by
      show s.data.toList.drop 4 = r
      rw [← hr]
      rfl
    have hsz : s.data.toList.length = s.size := rfl
    have hrl : r.length + 4 = s.size := by
      rw [← hr, List.length_append] at hsz
      have : xnL.length = 4 := rfl
      omega
    rw [asciiW_ok (badC_none l 0 hmay) p6 (by rw [p5, hbr]; omega)]
    congr 1
    apply ba_ext
    show xnL ++ encN l = s.data.toList
    rw [p5, hbr, hr]
theorem rightLen_nats {l : List Nat} (h : ∀ c ∈ l, rightB (c : Int) = true) : rightLen (intsN l) = (intsN l).length := intsN_right l h
def ShownPost (s : ByteArray) (w : World) (e : Ending) (w' : World) : Prop := Below w.heap.size w w' ∧
  (((rightL s).1 ≠ 0 ∧ ∃ v, e = .returned (.tuple #[.string ⟨#[]⟩, v]) ∧ IsFault w' v (rightL s).1 (rightL s).2) ∨ ((rightL s).1 = 0 ∧ e = .returned (.tuple #[.string (shownL s), .nilIface])))
end Go.Proofs.YtibhohpamnpkcaaGreatDoor

/- Items, in memory. -/
namespace Go.Proofs.YtibhohpamnpkcaaGreatDoor
open Go.RowKit

structure It where
  name : ByteArray
  value : ByteArray
  has : Bool
deriving DecidableEq

theorem info_item : (Tryz.prog.info? 102).map (fun i => (i.zero, i.size, i.bytes)) = some (some (.agg #[.string ByteArray.empty, .string ByteArray.empty, .bool false]), 3, 40) := by kernel_rfl

def itemC (x : It) : List Value := [.string x.name, .string x.value, .bool x.has]
def itemsV (l : List It) : List Value := l.flatMap itemC
theorem itemsV_len (l : List It) : (itemsV l).length = l.length * 3 := by
  induction l with
  | nil => rfl
  | cons p l ih =>
    unfold itemsV at ih ⊢
    rw [List.flatMap_cons, List.length_append, ih, List.length_cons]
    show 3 + _ = _
    omega
theorem itemsV_app (a b : List It) : itemsV (a ++ b) = itemsV a ++ itemsV b := by unfold itemsV; exact List.flatMap_append
theorem itemsV_at {l : List It} {i : Nat} {p : It} (h : l[i]? = some p) (j : Nat) (hj : j < 3) : (itemsV l)[i * 3 + j]? = (itemC p)[j]? := by
  induction l generalizing i with
  | nil => simp at h
  | cons q l ih =>
    cases i with
    | zero =>
      simp at h; subst h
      show (itemC q ++ itemsV l)[0 * 3 + j]? = _
      rw [List.getElem?_append_left (by show _ < 3; omega)]
      congr 1; omega
    | succ i =>
      simp at h
      show (itemC q ++ itemsV l)[(i + 1) * 3 + j]? = _
      rw [List.getElem?_append_right (by show 3 ≤ _; omega), ← ih h]
      congr 1
      show (i + 1) * 3 + j - 3 = _
      omega
theorem itemC_one (p : It) : ∀ u ∈ itemC p, u.oneCell' = true := by
  intro u hu
  unfold itemC at hu
  simp at hu
  rcases hu with rfl | rfl | rfl <;> rfl

def OwnI (w : World) (base : Nat) (v : Value) (l : List It) : Prop := w.ownsRow base 102 3 v l.length (itemsV l)
theorem OwnI.below {w w' : World} {base : Nat} {v : Value} {l : List It} (h : OwnI w base v l) (hb : Below w.heap.size w w') : OwnI w' base v l := ownsRow_below h hb
theorem OwnI.nil (w : World) (base : Nat) : OwnI w base (.slice none 0 0) [] := World.ownsRow_nil _ _ _ _
theorem OwnI.base' {w : World} {base base' : Nat} {v : Value} {l : List It} (h : OwnI w base v l) (hb : base' ≤ base) : OwnI w base' v l := ownsRow_base h hb
theorem OwnI.under {w0 w w' : World} {base : Nat} {v : Value} {l : List It} (h : OwnI w base v l) (hb : Below w0.heap.size w0 w) (hB : w0.heap.size ≤ base) (hg : w.grownBy w' v.ownBlock) : Below w0.heap.size w0 w' :=
  hb.grown hg hb.size (fun j hj => Nat.le_trans hB (World.ownsRow.lt h j hj).1)
theorem wpList_app_item {w : World} {ops : Array Oper} {rest : List Oper} {o : Oper} {a : Act} {Q : Exit → Act → World → Prop} (hgd : o.guard = none) (s x : Operand) (ho : o.op = .call { callee := .builtin .append, args := #[s, x], argTypes := #[60, 60] })
    (base : Nat) (v : Value) (l : List It) (hs : a.eval s = v) (hown : OwnI w base v l) (g c : Nat) (p : It) (hx : a.eval x = .slice (some ⟨g, 0, none⟩) 1 c) (hb : w.heap[g]? = some (.cells (itemC p).toArray 102 (0, 0)))
    (hl : l.length ≤ 1073741824) (hbase : base ≤ w.heap.size)
    (h : ∀ v' w', OwnI w' base v' (l ++ [p]) → w.grownBy w' v.ownBlock → wpList Tryz.prog ops Q rest (a.put o.dst v') w') : wpList Tryz.prog ops Q (o :: rest) a w := by
  obtain ⟨i, hi, hz, hsize, hby⟩ := info_parts info_item
  refine wpList_append_own _ hgd s x 60 ho base 102 i _ 3 40 Tryz.underlying60 hi hz hsize hby rfl (by decide) v _ _ hs hown _ 1 c (itemC p) hx rfl ?_ (itemC_one p) (by unfold maxLen; omega) (by omega) hbase ?_
  · intro j u hj
    rw [Addr.add_lit, Nat.zero_add, cell_of_row w g j _ _ _ hb, ← hj]
    simp
  · intro v' w' h1 h2 _
    refine h v' w' ?_ h2
    unfold OwnI
    rw [List.length_append, itemsV_app]
    have : itemsV [p] = itemC p := by unfold itemsV; simp
    rw [this]
    exact h1

theorem wpList_app_item_at {w : World} {ops : Array Oper} {rest : List Oper} {o : Oper} {a : Act} {Q : Exit → Act → World → Prop} (hgd : o.guard = none) (s x : Operand) (ho : o.op = .call { callee := .builtin .append, args := #[s, x], argTypes := #[60, 60] })
    (base : Nat) (v : Value) (l : List It) (hs : a.eval s = v) (hown : OwnI w base v l) (g c : Nat) (p : It) (hx : a.eval x = .slice (some ⟨g, 0, none⟩) 1 c) (hb : w.heap[g]? = some (.cells (itemC p).toArray 102 (0, 0)))
    (hl : l.length ≤ 1073741824) (hbase : base ≤ w.heap.size)
    (h : ∀ v' w', OwnI w' base v' (l ++ [p]) → w.grownBy w' v.ownBlock → (v'.ownBlock = v.ownBlock ∨ v'.ownBlock = some w.heap.size) → wpList Tryz.prog ops Q rest (a.put o.dst v') w') : wpList Tryz.prog ops Q (o :: rest) a w := by
  obtain ⟨i, hi, hz, hsize, hby⟩ := info_parts info_item
  refine wpList_append_own_at _ hgd s x 60 ho base 102 i _ 3 40 Tryz.underlying60 hi hz hsize hby rfl (by decide) v _ _ hs hown _ 1 c (itemC p) hx rfl ?_ (itemC_one p) (by unfold maxLen; omega) (by omega) hbase ?_
  · intro j u hj
    rw [Addr.add_lit, Nat.zero_add, cell_of_row w g j _ _ _ hb, ← hj]
    simp
  · intro v' w' h1 h2 _ h3
    refine h v' w' ?_ h2 h3
    unfold OwnI
    rw [List.length_append, itemsV_app]
    have : itemsV [p] = itemC p := by unfold itemsV; simp
    rw [this]
    exact h1
/-- A row that is read, beside a row of the call's own. -/
def Beside (pa : Option Addr) (v : Value) : Prop := ∀ b, pa = some ⟨b, 0, none⟩ → v.ownBlock ≠ some b
theorem RowSl.grown {w w2 : World} {pa : Option Addr} {l : List Value} {v : Value} (h : RowSl w pa l) (hg : w.grownBy w2 v.ownBlock) (hne : Beside pa v) : RowSl w2 pa l := by
  intro i x hx
  obtain ⟨b, e, hlt, h1⟩ := h i x hx
  have hk := hg.block b hlt (fun e' => hne b e e'.symm)
  exact ⟨b, e, Nat.lt_of_lt_of_le hlt hg.size, (World.cell?_of_block hk).trans h1⟩
theorem Beside.at {N : Nat} {pa : Option Addr} {v v' : Value} (h : Beside pa v) (hat : v'.ownBlock = v.ownBlock ∨ v'.ownBlock = some N) (hlt : ∀ b, pa = some ⟨b, 0, none⟩ → b < N) : Beside pa v' := by
  intro b hb e
  rcases hat with hat | hat
  · exact h b hb (hat ▸ e)
  · have := hlt b hb
    rw [hat] at e
    injection e with e
    omega
/-- A slice of items. -/
def ItemsSl (w : World) (a : Option Addr) (l : List It) : Prop := ∀ (i : Nat) (p : It), l[i]? = some p → ∃ b off, a = some ⟨b, off, none⟩ ∧ b < w.heap.size ∧
  w.cell? ⟨b, off + i * 3, none⟩ = some (.string p.name) ∧ w.cell? ⟨b, off + i * 3 + 1, none⟩ = some (.string p.value) ∧ w.cell? ⟨b, off + i * 3 + 2, none⟩ = some (.bool p.has)
theorem ItemsSl.below {w w' : World} {a : Option Addr} {l : List It} (h : ItemsSl w a l) (hb : Below w.heap.size w w') : ItemsSl w' a l := by
  intro i p hp
  obtain ⟨b, off, e, hlt, h1, h2, h3⟩ := h i p hp
  exact ⟨b, off, e, Nat.lt_of_lt_of_le hlt hb.size, (hb.cell (p := ⟨b, off + i * 3, none⟩) hlt).trans h1, (hb.cell (p := ⟨b, off + i * 3 + 1, none⟩) hlt).trans h2, (hb.cell (p := ⟨b, off + i * 3 + 2, none⟩) hlt).trans h3⟩
/-- Own items as a slice: where they lie. -/
def ItemsOwn (w : World) (a : Option Addr) (l : List It) : Prop := ∀ (i : Nat) (p : It), l[i]? = some p → ∃ b, a = some ⟨b, 0, none⟩ ∧ b < w.heap.size ∧
  w.cell? ⟨b, i * 3, none⟩ = some (.string p.name) ∧ w.cell? ⟨b, i * 3 + 1, none⟩ = some (.string p.value) ∧ w.cell? ⟨b, i * 3 + 2, none⟩ = some (.bool p.has)
theorem ItemsOwn.below {w w' : World} {a : Option Addr} {l : List It} (h : ItemsOwn w a l) (hb : Below w.heap.size w w') : ItemsOwn w' a l := by
  intro i p hp
  obtain ⟨b, e, hlt, h1, h2, h3⟩ := h i p hp
  exact ⟨b, e, Nat.lt_of_lt_of_le hlt hb.size, (hb.cell (p := ⟨b, i * 3, none⟩) hlt).trans h1, (hb.cell (p := ⟨b, i * 3 + 1, none⟩) hlt).trans h2, (hb.cell (p := ⟨b, i * 3 + 2, none⟩) hlt).trans h3⟩
theorem ItemsOwn.items {w : World} {a : Option Addr} {l : List It} (h : ItemsOwn w a l) : ItemsSl w a l := by
  intro i p hp
  obtain ⟨b, e, hlt, h1, h2, h3⟩ := h i p hp
  exact ⟨b, 0, e, hlt, by rw [Nat.zero_add]; exact h1, by rw [Nat.zero_add]; exact h2, by rw [Nat.zero_add]; exact h3⟩
theorem OwnI.sl {w : World} {base : Nat} {v : Value} {l : List It} (h : OwnI w base v l) : ∃ a c, v = .slice a l.length c ∧ l.length ≤ c ∧ c ≤ maxLen ∧ ItemsOwn w a l := by
  unfold OwnI at h
  rcases h.2 with ⟨e0, e1⟩ | ⟨g, cap, cur, e0, hg, hh, h1, h2, _⟩
  · refine ⟨none, 0, by rw [e0, e1], by omega, by unfold maxLen; omega, fun i p hp => ?_⟩
    have := (List.getElem?_eq_some_iff.1 hp).1
    omega
  · refine ⟨_, cap, e0, h1, h2, fun i p hp => ?_⟩
    subst e0
    have hc := h.cells (g := g) rfl
    have c0 := hc (i * 3 + 0) _ ((itemsV_at hp 0 (by omega)).trans rfl)
    have c1 := hc (i * 3 + 1) _ ((itemsV_at hp 1 (by omega)).trans rfl)
    have c2 := hc (i * 3 + 2) _ ((itemsV_at hp 2 (by omega)).trans rfl)
    simp only [Addr.add_lit, Nat.zero_add, Nat.add_zero] at c0 c1 c2
    exact ⟨g, rfl, lt_of_block hh, c0, c1, c2⟩
end Go.Proofs.YtibhohpamnpkcaaGreatDoor

/- Items out of parts, one behind the other, as long as nothing is wrong: plain facts. -/
namespace Go.Proofs.YtibhohpamnpkcaaGreatDoor

/-- What a part gives (are there as many items as may be?): nothing, an error's kind and place, or an item. -/
abbrev StepG := ByteArray → Bool → Option (Except (Nat × Nat) It)
structure RightG (g : StepG) : Prop where
  kind : ∀ p b k i, g p b = some (.error (k, i)) → k ≠ 0
  none : ∀ p b b', g p b = none → g p b' = none
  full : ∀ p x, g p true ≠ some (.ok x)
section
variable (g : StepG) (most : Nat)
/-- Parts' items behind those that there are, the error's kind, its place. -/
def goG : List ByteArray → Nat → List It → List It × Nat × Nat
  | [], _, acc => (acc, 0, 0)
  | p :: ps, at_, acc => match g p (decide (acc.length = most)) with
    | none => goG ps (at_ + p.size + 1) acc
    | some (.error (k, i)) => ([], k, at_ + i)
    | some (.ok x) => goG ps (at_ + p.size + 1) (acc ++ [x])
variable {g most} {p : ByteArray} {ps : List ByteArray} {at_ k i : Nat} {acc : List It} {x : It}
theorem goG_nil : goG g most [] at_ acc = (acc, 0, 0) := rfl
theorem goG_none (h : g p (decide (acc.length = most)) = none) : goG g most (p :: ps) at_ acc = goG g most ps (at_ + p.size + 1) acc := by rw [goG, h]
theorem goG_bad (h : g p (decide (acc.length = most)) = some (.error (k, i))) : goG g most (p :: ps) at_ acc = ([], k, at_ + i) := by rw [goG, h]
theorem goG_ok (h : g p (decide (acc.length = most)) = some (.ok x)) : goG g most (p :: ps) at_ acc = goG g most ps (at_ + p.size + 1) (acc ++ [x]) := by rw [goG, h]
end
/-- A part's three ways. -/
theorem goG_ways (g : StepG) (most : Nat) (p : ByteArray) (acc : List It) : g p (decide (acc.length = most)) = none ∨ (∃ k i, g p (decide (acc.length = most)) = some (.error (k, i))) ∨ ∃ x, g p (decide (acc.length = most)) = some (.ok x) := by
  cases g p (decide (acc.length = most)) with
  | none => exact .inl rfl
  | some r => cases r with
    | error e => exact .inr (.inl ⟨e.1, e.2, rfl⟩)
    | ok x => exact .inr (.inr ⟨x, rfl⟩)
section
variable {g : StepG} {most : Nat} (hg : RightG g)
include hg
theorem goG_len : ∀ (ps : List ByteArray) (at_ : Nat) (acc : List It), acc.length ≤ most → (goG g most ps at_ acc).1.length ≤ most
  | [], _, acc, h => h
  | p :: ps, at_, acc, h => by
    rcases goG_ways g most p acc with h1 | ⟨k, i, h1⟩ | ⟨x, h1⟩
    · rw [goG_none h1]; exact goG_len ps _ _ h
    · rw [goG_bad h1]; simp
    · rw [goG_ok h1]
      refine goG_len ps _ _ ?_
      have : acc.length ≠ most := fun e => by rw [decide_eq_true e] at h1; exact hg.full p x h1
      simp; omega
omit hg in
theorem goG_empty : ∀ (ps : List ByteArray) (at_ : Nat) (acc : List It), (goG g most ps at_ acc).2.1 ≠ 0 → (goG g most ps at_ acc).1 = []
  | [], _, acc, h => absurd rfl h
  | p :: ps, at_, acc, h => by
    rcases goG_ways g most p acc with h1 | ⟨k, i, h1⟩ | ⟨x, h1⟩
    · rw [goG_none h1] at h ⊢; exact goG_empty ps _ _ h
    · rw [goG_bad h1]
    · rw [goG_ok h1] at h ⊢; exact goG_empty ps _ _ h
theorem goG_zero : ∀ (ps : List ByteArray) (at_ : Nat) (acc : List It), (goG g most ps at_ acc).2.1 = 0 → (goG g most ps at_ acc).2.2 = 0
  | [], _, acc, h => rfl
  | p :: ps, at_, acc, h => by
    rcases goG_ways g most p acc with h1 | ⟨k, i, h1⟩ | ⟨x, h1⟩
    · rw [goG_none h1] at h ⊢; exact goG_zero ps _ _ h
    · rw [goG_bad h1] at h; exact absurd h (hg.kind _ _ _ _ h1)
    · rw [goG_ok h1] at h ⊢; exact goG_zero ps _ _ h
theorem goG_grow : ∀ (ps : List ByteArray) (at_ : Nat) (acc : List It), (goG g most ps at_ acc).2.1 = 0 → ∃ l, (goG g most ps at_ acc).1 = acc ++ l
  | [], _, acc, _ => ⟨[], by rw [goG_nil]; simp⟩
  | p :: ps, at_, acc, h => by
    rcases goG_ways g most p acc with h1 | ⟨k, i, h1⟩ | ⟨x, h1⟩
    · rw [goG_none h1] at h ⊢; exact goG_grow ps _ _ h
    · rw [goG_bad h1] at h; exact absurd h (hg.kind _ _ _ _ h1)
    · rw [goG_ok h1] at h ⊢
      obtain ⟨l, e⟩ := goG_grow ps _ _ h
      exact ⟨x :: l, by rw [e]; simp⟩
theorem goG_app : ∀ (ps qs : List ByteArray) (at_ : Nat) (acc : List It), goG g most (ps ++ qs) at_ acc = if (goG g most ps at_ acc).2.1 = 0 then goG g most qs (at_ + (ps.map fun p => p.size + 1).sum) (goG g most ps at_ acc).1 else goG g most ps at_ acc
  | [], qs, at_, acc => by simp [goG_nil]
  | p :: ps, qs, at_, acc => by
    rw [List.cons_append]
    have e : at_ + ((p :: ps).map fun p => p.size + 1).sum = at_ + p.size + 1 + (ps.map fun p => p.size + 1).sum := by rw [List.map_cons, List.sum_cons]; omega
    rcases goG_ways g most p acc with h1 | ⟨k, i, h1⟩ | ⟨x, h1⟩
    · rw [goG_none h1, goG_none h1, goG_app ps qs, e]
    · rw [goG_bad h1, goG_bad h1, if_neg (hg.kind _ _ _ _ h1)]
    · rw [goG_ok h1, goG_ok h1, goG_app ps qs, e]
/-- From another place, behind other items: the same items. -/
theorem goG_move : ∀ (ps : List ByteArray) (a1 a2 : Nat) (x acc : List It), (goG g most ps a1 acc).2.1 = 0 → x.length + (goG g most ps a1 acc).1.length ≤ most → goG g most ps a2 (x ++ acc) = (x ++ (goG g most ps a1 acc).1, 0, 0)
  | [], a1, a2, x, acc, _, _ => rfl
  | p :: ps, a1, a2, x, acc, h, h2 => by
    rcases goG_ways g most p acc with h1 | ⟨k, i, h1⟩ | ⟨y, h1⟩
    · rw [goG_none h1] at h h2 ⊢
      rw [goG_none (hg.none _ _ _ h1)]
      exact goG_move ps _ _ x acc h h2
    · rw [goG_bad h1] at h; exact absurd h (hg.kind _ _ _ _ h1)
    · rw [goG_ok h1] at h h2 ⊢
      obtain ⟨l, e⟩ := goG_grow hg ps _ _ h
      have hl := congrArg List.length e
      simp only [List.length_append, List.length_cons, List.length_nil] at hl
      have h3 : acc.length ≠ most := fun e => by rw [decide_eq_true e] at h1; exact hg.full p y h1
      have h4 : (x ++ acc).length ≠ most := by simp; omega
      rw [decide_eq_false h3] at h1
      have h5 : g p (decide ((x ++ acc).length = most)) = some (.ok y) := by rw [decide_eq_false h4]; exact h1
      rw [goG_ok h5, List.append_assoc]
      exact goG_move ps _ _ x (acc ++ [y]) h h2
end
/-- The parts of a text between marks. -/
def partsB (c : UInt8) (s : ByteArray) : List ByteArray := (splitL c s.data.toList).map ofL
theorem partsB_app (c : UInt8) (s t : ByteArray) : partsB c (s ++ ofL [c] ++ t) = partsB c s ++ partsB c t := by
  unfold partsB
  rw [← List.map_append, ← splitL_app c t.data.toList s.data.toList.length s.data.toList (Nat.le_refl _)]
  congr 2
  rw [ByteArray.data_append, ByteArray.data_append]
  simp [ofL]
section
variable {g : StepG} {most : Nat} (hg : RightG g)
include hg
theorem goG_both (c : UInt8) (s t : ByteArray) (h1 : (goG g most (partsB c s) 0 []).2.1 = 0) (h2 : (goG g most (partsB c t) 0 []).2.1 = 0) (h3 : (goG g most (partsB c s) 0 []).1.length + (goG g most (partsB c t) 0 []).1.length ≤ most) :
    goG g most (partsB c (s ++ ofL [c] ++ t)) 0 [] = ((goG g most (partsB c s) 0 []).1 ++ (goG g most (partsB c t) 0 []).1, 0, 0) := by
  rw [partsB_app, goG_app hg, if_pos h1]
  have := goG_move hg (partsB c t) 0 (0 + ((partsB c s).map fun p => p.size + 1).sum) (goG g most (partsB c s) 0 []).1 [] h2 h3
  rw [List.append_nil] at this
  exact this
theorem goG_first (c : UInt8) (s t : ByteArray) (h1 : (goG g most (partsB c s) 0 []).2.1 ≠ 0) : goG g most (partsB c (s ++ ofL [c] ++ t)) 0 [] = goG g most (partsB c s) 0 [] := by
  rw [partsB_app, goG_app hg, if_neg h1]
end
end Go.Proofs.YtibhohpamnpkcaaGreatDoor

/- Names that were told, in plain words. -/
namespace Go.Proofs.YtibhohpamnpkcaaGreatDoor
open Go.RowKit

theorem right_bytes {p : ByteArray} (h : (rightL p).1 = 0) : ∀ b ∈ p.data.toList, SmB b := all_sm.1 (right_inv h).2.2.1
theorem sm_dot {b : UInt8} (h : SmB b) : b ≠ 46 := by rintro rfl; exact absurd (show smallZ ((46 : UInt8).toNat : Int) = true from h) (by decide)
theorem right_ne {p : ByteArray} (h : (rightL p).1 = 0) : p.data.toList ≠ [] := by
  intro e
  have h1 := (right_inv h).2.1
  have h2 : p.data.toList.length = p.size := rfl
  rw [e] at h2
  exact h1 h2.symm
/-- A name that was told: of right labels. -/
structure GoodName (t : ByteArray) (xs : List ByteArray) : Prop where
  eq : t = joinP xs
  ne : xs ≠ []
  right : ∀ p ∈ xs, (rightL p).1 = 0
theorem nameF_right : ∀ (ps : List ByteArray) (a : Nat) (xs : List ByteArray), nameF ps a = .ok xs → xs.length = ps.length ∧ ∀ x ∈ xs, (rightL x).1 = 0 := by
  intro ps
  induction ps with
  | nil => intro a xs h; cases h; exact ⟨rfl, fun x hx => by cases hx⟩
  | cons p ps ih =>
    intro a xs h
    cases hp : asciiL p with
    | error e =>
      obtain ⟨k, i⟩ := e
      rw [nameF_err hp] at h
      cases h
    | ok x =>
      rw [nameF_ok hp] at h
      cases hr : nameF ps (a + p.size + 1) with
      | error e => rw [hr] at h; cases h
      | ok ys =>
        rw [hr] at h
        obtain rfl : x :: ys = xs := Except.ok.inj h
        obtain ⟨h1, h2⟩ := ih _ _ hr
        refine ⟨by simp [h1], fun z hz => ?_⟩
        rcases List.mem_cons.1 hz with rfl | hz
        · exact ascii_right hp
        · exact h2 z hz
theorem nameF_fix : ∀ (xs : List ByteArray) (a : Nat), (∀ p ∈ xs, (rightL p).1 = 0) → nameF xs a = .ok xs := by
  intro xs
  induction xs with
  | nil => intro a _; rfl
  | cons x xs ih =>
    intro a h
    rw [nameF_ok (ascii_fix (h x (by simp))), ih _ fun p hp => h p (by simp [hp])]
    rfl
theorem joinP_data (xs : List ByteArray) : (joinP xs).data.toList = joinA 46 (xs.map (·.data.toList)) := ofL_data _
theorem split_name {t : ByteArray} {xs : List ByteArray} (h : GoodName t xs) : splitL 46 t.data.toList = xs.map (·.data.toList) := by
  rw [h.eq, joinP_data]
  refine split_join 46 _ (by intro e; exact h.ne (List.map_eq_nil_iff.1 e)) fun p hp x hx => ?_
  obtain ⟨q, hq, rfl⟩ := List.mem_map.1 hp
  exact sm_dot (right_bytes (h.right q hq) x hx)
theorem map_back (xs : List ByteArray) : (xs.map (·.data.toList)).map ofL = xs := by
  rw [List.map_map]
  have := List.map_congr_left (l := xs) (f := ofL ∘ (·.data.toList)) (g := id) fun b _ => ofL_list b
  rw [this, List.map_id]
theorem fields_name {t : ByteArray} {xs : List ByteArray} (h : GoodName t xs) : fieldsB t = xs := by
  unfold fieldsB
  rw [fields_split, split_name h, map_back]
theorem parts_name {t : ByteArray} {xs : List ByteArray} (h : GoodName t xs) : partsB 46 t = xs := by
  unfold partsB
  rw [split_name h, map_back]
theorem joinA_two (c : UInt8) : ∀ a b : List (List UInt8), a ≠ [] → b ≠ [] → joinA c (a ++ b) = joinA c a ++ c :: joinA c b := by
  intro a
  induction a with
  | nil => intro b h _; exact absurd rfl h
  | cons p a ih =>
    intro b _ hb
    cases a with
    | nil =>
      cases b with
      | nil => exact absurd rfl hb
      | cons q r => rfl
    | cons q r =>
      show p ++ c :: joinA c ((q :: r) ++ b) = (p ++ c :: joinA c (q :: r)) ++ c :: joinA c b
      rw [ih b (by simp) hb]
      simp
theorem joinA_end (c : UInt8) : ∀ a : List (List UInt8), a ≠ [] → ∃ pre p, p ∈ a ∧ joinA c a = pre ++ p := by
  intro a
  induction a with
  | nil => intro h; exact absurd rfl h
  | cons p a ih =>
    intro _
    cases a with
    | nil => exact ⟨[], p, by simp, rfl⟩
    | cons q r =>
      obtain ⟨pre, z, hz, e⟩ := ih (by simp)
      refine ⟨p ++ c :: pre, z, by simp at hz ⊢; exact .inr hz, ?_⟩
      show p ++ c :: joinA c (q :: r) = _
      rw [e]
      simp
theorem joinA_size (c : UInt8) : ∀ a : List (List UInt8), (∀ p ∈ a, p ≠ []) → 2 * a.length ≤ (joinA c a).length + 1 := by
  intro a
  induction a with
  | nil => intro _; exact Nat.zero_le _
  | cons p a ih =>
    intro h
    have hp := List.length_pos_iff.2 (h p (by simp))
    cases a with
    | nil => show 2 * 1 ≤ p.length + 1; omega
    | cons q r =>
      have := ih fun x hx => h x (by simp [hx])
      show 2 * ((q :: r).length + 1) ≤ (p ++ c :: joinA c (q :: r)).length + 1
      have e : (p ++ c :: joinA c (q :: r)).length = p.length + ((joinA c (q :: r)).length + 1) := by rw [List.length_append]; rfl
      rw [e]
      omega
theorem name_end {t : ByteArray} {xs : List ByteArray} (h : GoodName t xs) : 0 < t.size ∧ byteAt t (t.size - 1) ≠ 46 := by
  obtain ⟨pre, p, hp, e⟩ := joinA_end 46 (xs.map (·.data.toList)) (by intro e; exact h.ne (List.map_eq_nil_iff.1 e))
  obtain ⟨q, hq, rfl⟩ := List.mem_map.1 hp
  have hr := h.right q hq
  have hne := List.length_pos_iff.2 (right_ne hr)
  have ht : t.data.toList = pre ++ q.data.toList := by rw [h.eq, joinP_data, e]
  have hz : t.data.toList.length = t.size := rfl
  have hl : t.size = pre.length + q.data.toList.length := by rw [← hz, ht, List.length_append]
  refine ⟨by omega, ?_⟩
  have hb : byteAt t (t.size - 1) ∈ q.data.toList := by
    have e2 : byteAt t (t.size - 1) = t.data.toList.getD (t.size - 1) 0 := rfl
    rw [e2, ht, hl]
    simp only [List.getD]
    rw [List.getElem?_append_right (by omega), List.getElem?_eq_getElem (by omega)]
    exact List.getElem_mem _
  exact sm_dot (right_bytes hr _ hb)
theorem cut_name {t : ByteArray} {xs : List ByteArray} (h : GoodName t xs) : cutP t = t := by
  unfold cutP
  rw [if_neg (fun hh => (name_end h).2 hh.2)]
theorem count_name {t : ByteArray} {xs : List ByteArray} (h : GoodName t xs) : 2 * xs.length ≤ t.size + 1 := by
  have := joinA_size 46 (xs.map (·.data.toList)) fun p hp => by
    obtain ⟨q, hq, rfl⟩ := List.mem_map.1 hp
    exact right_ne (h.right q hq)
  rw [List.length_map, ← joinP_data, ← h.eq] at this
  exact this
/-- A name that was told is told as itself. -/
theorem name_fix {t : ByteArray} {xs : List ByteArray} (h : GoodName t xs) (hz : t.size ≤ 253) {r : Except (Nat × Nat) ByteArray} (hr : NameIs t r) : r = .ok t := by
  have hc := cut_name h
  have hf := fields_name h
  have hn := nameF_fix xs 0 h.right
  have hl := fieldsB_len t
  rw [hf] at hl
  have hcount := count_name h
  cases hr with
  | empty h1 => rw [hc] at h1; have := (name_end h).1; omega
  | many i h1 h2 h3 h4 =>
    rw [hc] at h2 h4
    have := cutAt_mono t 46 (show i + 1 ≤ t.size from h2)
    omega
  | bad e h1 h2 h3 => rw [hc, hf, hn] at h3; cases h3
  | long ys h1 h2 h3 h4 =>
    rw [hc, hf, hn] at h3
    obtain rfl := Except.ok.inj h3
    rw [← h.eq] at h4
    omega
  | ok ys h1 h2 h3 h4 =>
    rw [hc, hf, hn] at h3
    obtain rfl := Except.ok.inj h3
    rw [← h.eq]
theorem name_good {s t : ByteArray} (h : NameIs s (.ok t)) : ∃ xs, GoodName t xs ∧ t.size ≤ 253 := by
  cases h with
  | ok xs h1 h2 h3 h4 =>
    obtain ⟨a, b⟩ := nameF_right _ _ _ h3
    refine ⟨xs, ⟨rfl, ?_, b⟩, by omega⟩
    rintro rfl
    have := fieldsB_len (cutP s)
    rw [← a] at this
    cases this
theorem join_names {x y : ByteArray} {xs ys : List ByteArray} (h1 : GoodName x xs) (h2 : GoodName y ys) : GoodName (x ++ ⟨#[46]⟩ ++ y) (xs ++ ys) := by
  refine ⟨?_, by intro e; exact h1.ne (List.append_eq_nil_iff.1 e).1, fun p hp => ?_⟩
  · apply ba_ext
    rw [joinP_data, List.map_append, joinA_two 46 _ _ (by intro e; exact h1.ne (List.map_eq_nil_iff.1 e)) (by intro e; exact h2.ne (List.map_eq_nil_iff.1 e)), data_append, data_append, ← joinP_data, ← joinP_data, ← h1.eq, ← h2.eq]
    show (x.data.toList ++ [46]) ++ y.data.toList = _
    simp
  · rcases List.mem_append.1 hp with hp | hp
    · exact h1.right p hp
    · exact h2.right p hp
end Go.Proofs.YtibhohpamnpkcaaGreatDoor

/- Plain facts: a text without blanks around it. -/
namespace Go.Proofs.YtibhohpamnpkcaaGreatDoor
open Go.RowKit

def blanks : ByteArray := ⟨#[32, 9, 10, 13]⟩
theorem blanks_has (c : UInt8) : ([32, 9, 10, 13] : List UInt8).contains c = hasB blanks c := by
  have : ∀ n : Fin 256, ([32, 9, 10, 13] : List UInt8).contains (UInt8.ofNat n.1) = hasB blanks (UInt8.ofNat n.1) := by decide +kernel
  have h := this ⟨c.toNat, c.toNat_lt⟩
  simpa using h
/-- A text without blanks around it. -/
def trimS (s : ByteArray) : ByteArray := ⟨(Lib.trimS s.data.toList [32, 9, 10, 13]).toArray⟩

theorem at_byte {s : ByteArray} {j : Nat} {b : UInt8} (h : s.data.toList[j]? = some b) : j < s.size ∧ byteAt s j = b := by
  have hl : s.data.toList.length = s.size := rfl
  have hlt := (List.getElem?_eq_some_iff.1 h).1
  refine ⟨by omega, ?_⟩
  unfold byteAt
  rw [List.getD, h]; rfl

theorem trim_is {s : ByteArray} {a b : Nat} (hab : a ≤ b) (hb : b ≤ s.size) (h1 : ∀ j, j < a → hasB blanks (byteAt s j) = true) (h2 : ∀ j, b ≤ j → j < s.size → hasB blanks (byteAt s j) = true)
    (h3 : a < b → hasB blanks (byteAt s a) = false) (h4 : a < b → hasB blanks (byteAt s (b - 1)) = false) : trimS s = s.extract a b := by
  have hl : s.data.toList.length = s.size := rfl
  unfold trimS Lib.trimS
  rw [Lib.extract_eq]
  by_cases hlt : a < b
  · rw [Lib.trimRightS_take _ _ b (by omega) (fun j c hj hc => by
      obtain ⟨h5, h6⟩ := at_byte hc
      rw [blanks_has, ← h6]; exact h2 j hj h5) (fun c _ hc => by
      obtain ⟨h5, h6⟩ := at_byte hc
      rw [blanks_has, ← h6]; exact h4 hlt)]
    rw [Lib.trimLeftS_drop _ _ a (by simp; omega) (fun j c hj hc => by
      rw [List.getElem?_take, if_pos (by omega)] at hc
      obtain ⟨h5, h6⟩ := at_byte hc
      rw [blanks_has, ← h6]; exact h1 j hj) (fun c hc => by
      rw [List.getElem?_take, if_pos hlt] at hc
      obtain ⟨h5, h6⟩ := at_byte hc
      rw [blanks_has, ← h6]; exact h3 hlt)]
    rw [List.drop_take]
  · obtain rfl : a = b := by omega
    rw [Lib.trimRightS_take _ _ 0 (Nat.zero_le _) (fun j c hj hc => by
      obtain ⟨h5, h6⟩ := at_byte hc
      rw [blanks_has, ← h6]
      by_cases hja : j < a
      · exact h1 j hja
      · exact h2 j (by omega) h5) (fun c h0 _ => absurd h0 (Nat.lt_irrefl 0))]
    simp [Lib.trimLeftS]
end Go.Proofs.YtibhohpamnpkcaaGreatDoor

/- Plain facts: great letters, blanks around a text. -/
namespace Go.Proofs.YtibhohpamnpkcaaGreatDoor
open Go.RowKit

def greatB (b : UInt8) : UInt8 := if 97 ≤ b.toNat ∧ b.toNat ≤ 122 then b - 32 else b
theorem greatB_nat (b : UInt8) (h1 : 97 ≤ b.toNat) (h2 : b.toNat ≤ 122) : (greatB b).toNat = b.toNat - 32 := by
  unfold greatB
  rw [if_pos ⟨h1, h2⟩]
  rw [UInt8.toNat_sub_of_le _ _ (by rw [UInt8.le_iff_toNat_le]; show 32 ≤ _; omega)]
  rfl
theorem low_great (b : UInt8) : lowerB (greatB b) = lowerB b := by
  have : ∀ n : Fin 256, lowerB (greatB (UInt8.ofNat n.1)) = lowerB (UInt8.ofNat n.1) := by decide +kernel
  have h := this ⟨b.toNat, b.toNat_lt⟩
  simpa using h
def greatL (l : List UInt8) : List UInt8 := l.map greatB
def greatS (s : ByteArray) : ByteArray := ⟨(greatL s.data.toList).toArray⟩
theorem greatS_size (s : ByteArray) : (greatS s).size = s.size := by
  show (greatL s.data.toList).toArray.size = s.data.toList.length
  simp [greatL]
theorem lowerS_great (s : ByteArray) : lowerS (greatS s) = lowerS s := by
  unfold lowerS lowerL greatS greatL
  apply ByteArray.ext
  apply Array.ext'
  show (s.data.toList.map greatB).map lowerB = s.data.toList.map lowerB
  rw [List.map_map]
  exact List.map_congr_left fun x _ => low_great x
/-- So far great letters. -/
def greatTo (s : ByteArray) (i : Nat) : List UInt8 := greatL (s.data.toList.take i) ++ s.data.toList.drop i
theorem greatTo_len (s : ByteArray) (i : Nat) : (greatTo s i).length = s.size := by
  have hl : s.data.toList.length = s.size := rfl
  simp [greatTo, greatL]; omega
theorem greatTo_zero (s : ByteArray) : greatTo s 0 = s.data.toList := by simp [greatTo, greatL]
theorem greatTo_all (s : ByteArray) : greatTo s s.size = (greatS s).data.toList := by
  have hl : s.data.toList.length = s.size := rfl
  show greatL (s.data.toList.take s.size) ++ s.data.toList.drop s.size = greatL s.data.toList
  rw [List.take_of_length_le (by omega), List.drop_eq_nil_of_le (by omega), List.append_nil]
theorem greatTo_at {s : ByteArray} {i : Nat} (hi : i < s.size) : (greatTo s i).getD i 0 = byteAt s i := by
  have hl : s.data.toList.length = s.size := rfl
  have h1 : (greatL (s.data.toList.take i)).length = i := by simp [greatL]; omega
  unfold greatTo byteAt
  simp only [List.getD, List.getElem?_append, h1, Nat.lt_irrefl, if_false, Nat.sub_self, List.getElem?_drop, Nat.add_zero]
theorem greatTo_set {s : ByteArray} {i : Nat} (hi : i < s.size) : (greatTo s i).set i (greatB (byteAt s i)) = greatTo s (i + 1) := by
  have hl : s.data.toList.length = s.size := rfl
  have hlt : i < s.data.toList.length := by omega
  have h1 : (greatL (s.data.toList.take i)).length = i := by simp [greatL]; omega
  have hb : byteAt s i = s.data.toList[i] := by unfold byteAt; rw [List.getD, List.getElem?_eq_getElem hlt]; rfl
  unfold greatTo
  rw [List.set_append_right _ _ (by rw [h1]; exact Nat.le_refl _), h1, Nat.sub_self, List.drop_eq_getElem_cons hlt, List.set_cons_zero, List.take_succ_eq_append_getElem hlt, hb]
  simp [greatL]
theorem greatTo_keep {s : ByteArray} {i : Nat} (hi : i < s.size) (h : greatB (byteAt s i) = byteAt s i) : greatTo s (i + 1) = greatTo s i := by
  rw [← greatTo_set hi, h]
  have h2 := greatTo_at hi
  have hll : i < (greatTo s i).length := by rw [greatTo_len]; exact hi
  apply List.ext_getElem?
  intro j
  rw [List.getElem?_set]
  split
  · rename_i e
    subst e
    rw [← h2, List.getD, List.getElem?_eq_getElem hll]; rfl
  · rfl

theorem dropWhile_pre (p : UInt8 → Bool) (a b : List UInt8) (h : ∀ x ∈ a, p x = true) : (a ++ b).dropWhile p = b.dropWhile p := by
  induction a with
  | nil => rfl
  | cons x a ih =>
    rw [List.cons_append, List.dropWhile_cons_of_pos (h x (by simp))]
    exact ih fun y hy => h y (by simp [hy])
theorem dropWhile_post (p : UInt8 → Bool) (a b : List UInt8) (h : ∀ x ∈ b, p x = true) : (a ++ b).dropWhile p = if a.dropWhile p = [] then [] else a.dropWhile p ++ b := by
  rw [List.dropWhile_append]
  by_cases he : a.dropWhile p = []
  · rw [if_pos (by rw [he]; rfl), if_pos he]
    have := dropWhile_pre p b [] h
    simpa using this
  · rw [if_neg (by rw [List.isEmpty_iff]; exact he), if_neg he]
theorem trim_around (cs p l : List UInt8) (h : ∀ x ∈ p, cs.contains x = true) : Lib.trimS (p ++ l ++ p) cs = Lib.trimS l cs := by
  unfold Lib.trimS Lib.trimLeftS Lib.trimRightS
  rw [List.reverse_append, List.reverse_append, dropWhile_pre _ _ _ (fun x hx => h x (by simpa using hx)), dropWhile_post _ _ _ (fun x hx => h x (by simpa using hx))]
  split
  · rename_i e
    rw [e]
  · rw [List.reverse_append, List.reverse_reverse, dropWhile_pre _ _ _ h]
theorem trim_all (cs p : List UInt8) (h : ∀ x ∈ p, cs.contains x = true) : Lib.trimS p cs = [] := by
  unfold Lib.trimS Lib.trimRightS
  have := dropWhile_pre (cs.contains ·) p.reverse [] (fun x hx => h x (by simpa using hx))
  rw [List.append_nil] at this
  rw [this]
  rfl
def padS : ByteArray := ⟨#[32, 9, 10, 13, 32, 9, 10, 13]⟩
theorem pad_blank (m : Nat) : ∀ x ∈ (padS.extract 0 m).data.toList, ([32, 9, 10, 13] : List UInt8).contains x = true := by
  intro x hx
  rw [Lib.extract_data] at hx
  have := List.mem_of_mem_drop (List.mem_of_mem_take hx)
  have h8 : ∀ y ∈ padS.data.toList, ([32, 9, 10, 13] : List UInt8).contains y = true := by decide
  exact h8 x this
theorem trim_pad (m : Nat) : trimS (padS.extract 0 m) = ByteArray.empty := by
  unfold trimS
  rw [trim_all _ _ (pad_blank m)]
  rfl
theorem trim_padded (m : Nat) (s : ByteArray) : trimS (padS.extract 0 m ++ s ++ padS.extract 0 m) = trimS s := by
  unfold trimS
  rw [ByteArray.data_append, ByteArray.data_append]
  simp only [Array.toList_append]
  rw [trim_around _ _ _ (pad_blank m)]
theorem and7 (n : Nat) (h : n < 256) : bits .and .u8 (n : Int) 7 = ((n % 8 : Nat) : Int) := by
  have : ∀ n : Fin 256, bits .and .u8 (n.1 : Int) 7 = ((n.1 % 8 : Nat) : Int) := by decide +kernel
  exact this ⟨n, h⟩
end Go.Proofs.YtibhohpamnpkcaaGreatDoor
