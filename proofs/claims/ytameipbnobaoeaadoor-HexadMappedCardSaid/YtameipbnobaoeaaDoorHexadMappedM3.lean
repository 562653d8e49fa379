/- strings.Builder: copyCheck, WriteByte, WriteString (over a cut whose copyCheck holds a branch that no builder of the call's own reaches), String. -/
import Derived.Test.YtameipbnobaoeaaDoorHexadMappedM1
import Derived.Test.YtameipbnobaoeaaDoorShelf
import Derived.Lib.Builder
import Derived.Lib.AppendStr
import Derived.Lib.UnsafeStr
import Derived.Laws.Externs
import Derived.Deep.AppendSrc
import Derived.Deep.Upon

namespace Go.Proofs.YtameipbnobaoeaaDoor
open Go.RowKit

/-- A builder in block b, whose bytes lie in a row of the call's own, from B on. -/
def Bld (w : World) (B b : Nat) (l : List UInt8) : Prop :=
  b < B ∧ ∃ p v, (p = .pointer none ∨ p = .pointer (some ⟨b, 0, none⟩)) ∧ w.heap[b]? = some (.cells #[p, v] 71 (0, 0)) ∧ w.ownsRow B 5 1 v l.length (Lib.byteCells l)
/-- All blocks below B, but b, stand as they stood. -/
structure ButB (B b : Nat) (w w' : World) : Prop where
  os : w'.os = w.os
  tape : w'.tape = w.tape
  output : w'.output = w.output
  size : w.heap.size ≤ w'.heap.size
  block : ∀ k, k < B → k ≠ b → w'.heap[k]? = w.heap[k]?
theorem ButB.refl (B b : Nat) (w : World) : ButB B b w w := ⟨rfl, rfl, rfl, Nat.le_refl _, fun _ _ _ => rfl⟩
theorem ButB.trans {B b : Nat} {w w1 w2 : World} (h : ButB B b w w1) (k : ButB B b w1 w2) : ButB B b w w2 :=
  ⟨k.os.trans h.os, k.tape.trans h.tape, k.output.trans h.output, Nat.le_trans h.size k.size, fun i hi hn => (k.block i hi hn).trans (h.block i hi hn)⟩
theorem ButB.of_below {B b : Nat} {w w' : World} (h : Below B w w') : ButB B b w w' := ⟨h.os, h.tape, h.output, h.size, fun k hk _ => h.block k hk⟩
theorem ButB.setCell {B b : Nat} {w w' : World} (h : ButB B b w w') (j : Nat) (u : Value) : ButB B b w (w'.setCell ⟨b, j, none⟩ u) :=
  ⟨h.os, h.tape, h.output, by simpa [World.setCell] using h.size, fun k hk hn => (Below.heap_setCell w' ⟨b, j, none⟩ u k (fun e => hn e)).trans (h.block k hk hn)⟩
theorem ButB.below {B b B0 : Nat} {w w' : World} (h : ButB B b w w') (h1 : B0 ≤ b) (h2 : B0 ≤ B) : Below B0 w w' := ⟨h.os, h.tape, h.output, h.size, fun k hk => h.block k (by omega) (by omega)⟩
theorem BytesAt.but {w w' : World} {g B b : Nat} {l : List UInt8} (h : BytesAt w g l) (hb : ButB B b w w') (h1 : g < B) (h2 : g ≠ b) : BytesAt w' g l := by
  obtain ⟨e, rest, lo, hi, hlo, hh⟩ := h
  exact ⟨e, rest, lo, hi, hlo, (hb.block g h1 h2).trans hh⟩

theorem bld_size : (Tryd.prog.info? 71).map (·.size) = some 2 := by kernel_rfl
theorem bld_lies : liesAt Tryd.prog Tryd.prog.depth 71 (2 / Tryd.prog.cellsOf 71) 0 71 1 = true := by kernel_rfl
theorem bld_byte : (Tryd.prog.info? 5).map (fun i => (i.zero, i.size, i.bytes)) = some (some (.int .u8 0), 1, 1) := by kernel_rfl

theorem Bld.new {w' : World} {B b : Nat} {u : Obj} (hu : u = .cells #[.pointer none, .slice none 0 0] 71) (h : w'.heap[b]? = some u) (hb : b < B) : Bld w' B b [] :=
  ⟨hb, _, _, .inl rfl, by rw [h, hu], World.ownsRow_nil _ _ _ _⟩
theorem Bld.below {w w' : World} {B b : Nat} {l : List UInt8} (h : Bld w B b l) (hb : Below w.heap.size w w') : Bld w' B b l := by
  obtain ⟨h1, p, v, h2, h3, h4⟩ := h
  exact ⟨h1, p, v, h2, (hb.block b (lt_of_block h3)).trans h3, ownsRow_below h4 hb⟩
theorem Bld.lt {w : World} {B b : Nat} {l : List UInt8} (h : Bld w B b l) : b < w.heap.size := by
  obtain ⟨_, p, v, _, h3, _⟩ := h
  exact lt_of_block h3

set_option maxHeartbeats 1000000 in
set_option maxRecDepth 100000 in
theorem bld_check_used (b : Nat) (w : World) (h0 : w.cell? ⟨b, 0, none⟩ = some (.pointer (some ⟨b, 0, none⟩))) :
    Calls Tryd.prog 40 #[.pointer (some ⟨b, 0, none⟩)] w fun e w' => e = .returned (.tuple #[]) ∧ w' = w := by
  obtain ⟨j, hj, _⟩ := Option.map_eq_some_iff.1 bld_size
  have hnp := Lib.run_neq_ptr_same (P := Tryd.prog) w ⟨b, 0, none⟩ Tryd.underlying69 hj
  go_enter Tryd.func40, Tryd.ntmps40
  go_wp2
  go_end0
  exact ⟨rfl, rfl⟩
set_option maxHeartbeats 1000000 in
set_option maxRecDepth 100000 in
theorem bld_check_fresh (b : Nat) (w : World) (h0 : w.cell? ⟨b, 0, none⟩ = some (.pointer none)) (hsh : w.shape? b = some (71, 2)) (hfz : w.frozen? ⟨b, 0, none⟩ = false) :
    Calls Tryd.prog 40 #[.pointer (some ⟨b, 0, none⟩)] w fun e w' => e = .returned (.tuple #[]) ∧ w' = w.setCell ⟨b, 0, none⟩ (.pointer (some ⟨b, 0, none⟩)) := by
  obtain ⟨j, hj, hjs⟩ := Option.map_eq_some_iff.1 bld_size
  have k1 := Lib.run_to_unsafe (P := Tryd.prog) w ⟨b, 0, none⟩ Tryd.underlying69 Tryd.underlying97 hj (by rw [hjs]; decide) hsh (Nat.zero_lt_succ 1)
  have k2 : (callFunc 60 #[.pointer (some ⟨b, 0, none⟩)]).run Tryd.prog w = .ok (.value (.pointer (some ⟨b, 0, none⟩))) w := by
    rw [run_callFunc_extern Tryd.func60 (by kernel_rfl) (by kernel_rfl) (by kernel_rfl) (e := Extern.AbiNoEscape.same) (by kernel_rfl)]
    rw [Lib.run_noEscape]
    rfl
  have k3 := Lib.run_from_unsafe (P := Tryd.prog) w ⟨b, 0, none⟩ Tryd.underlying97 Tryd.underlying69 hj hsh bld_lies
  go_enter Tryd.func40, Tryd.ntmps40
  go_wp2
  go_end0
  exact ⟨rfl, rfl⟩
theorem bld_check (B b : Nat) (l : List UInt8) (w : World) (h : Bld w B b l) :
    Calls Tryd.prog 40 #[.pointer (some ⟨b, 0, none⟩)] w fun e w' => e = .returned (.tuple #[]) ∧ ButB B b w w' ∧ ∃ v, w'.heap[b]? = some (.cells #[.pointer (some ⟨b, 0, none⟩), v] 71 (0, 0)) ∧ w'.ownsRow B 5 1 v l.length (Lib.byteCells l) := by
  obtain ⟨h1, p, v, h2, h3, h4⟩ := h
  have c0 : w.cell? ⟨b, 0, none⟩ = some p := by rw [cell_of_row w b 0 _ _ _ h3]; rfl
  rcases h2 with rfl | rfl
  · refine (bld_check_fresh b w c0 (by simp [World.shape?, h3]) (Lib.frozen_of_heap h3 0)).mono ?_
    rintro e w' ⟨rfl, rfl⟩
    refine ⟨rfl, (ButB.refl B b w).setCell 0 _, v, by simp [World.setCell, Array.getElem?_modify, h3], ?_⟩
    refine h4.kept (row := some b) ⟨rfl, rfl, rfl, by simp [World.setCell], fun k _ hk => Below.heap_setCell _ _ _ _ (fun e => hk (by simp [e]))⟩ (.inr fun e => ?_)
    have := (h4.lt b e).1
    omega
  · refine (bld_check_used b w c0).mono ?_
    rintro e w' ⟨rfl, rfl⟩
    exact ⟨rfl, ButB.refl _ _ _, v, h3, h4⟩
theorem bld_put {w : World} {B b : Nat} {p v : Value} {n : Nat} {xs : List Value} {l : List UInt8} (hb : b < B) (hp : p = .pointer (some ⟨b, 0, none⟩)) {u : Value} (h3 : w.heap[b]? = some (.cells #[p, u] 71 (0, 0))) (h4 : w.ownsRow B 5 1 v n xs) (hn : n = l.length) (hx : xs = Lib.byteCells l) :
    Bld (w.setCell ⟨b, 1, none⟩ v) B b l := by
  subst hn hx
  refine ⟨hb, p, v, .inr hp, by simp [World.setCell, Array.getElem?_modify, h3], ?_⟩
  refine h4.kept (row := some b) ⟨rfl, rfl, rfl, by simp [World.setCell], fun k _ hk => Below.heap_setCell _ _ _ _ (fun e => hk (by simp [e]))⟩ (.inr fun e => ?_)
  have := (h4.lt b e).1
  omega

set_option maxHeartbeats 2000000 in
set_option maxRecDepth 100000 in
theorem bld_WriteString (B b : Nat) (l : List UInt8) (s : ByteArray) (w : World) (h : Bld w B b l) (hlen : l.length + s.size ≤ 1073741824) (hBw : B ≤ w.heap.size) :
    Calls Tryd.prog 32 #[.pointer (some ⟨b, 0, none⟩), .string s] w fun e w' => e = .returned (.tuple #[.int .i64 s.size, .nilIface]) ∧ Bld w' B b (l ++ s.data.toList) ∧ ButB B b w w' := by
  obtain ⟨i0, hi, hz0, hz1, hz2⟩ := info_parts bld_byte
  have hbB := h.1
  go_enter Tryd.func32, Tryd.ntmps32
  go_wp2_with fail
  refine (bld_check B b l _ h).mono ?_
  rintro e w1 ⟨rfl, hb1, v, hbk, hown⟩
  have c0 : w1.cell? ⟨b, 0, none⟩ = some (.pointer (some ⟨b, 0, none⟩)) := by rw [Lib.cell_of_heap hbk]; rfl
  have c1 : w1.cell? ⟨b, 1, none⟩ = some v := by rw [Lib.cell_of_heap hbk]; rfl
  have hsz1 := hb1.size
  go_wp2_with (at_builtin; refine Lib.wpList_append_own_string _ rfl _ _ 55 9 rfl B 5 i0 Tryd.underlying55 Tryd.underlying9 hi hz0 hz1 hz2 _ _ _ rfl hown s rfl ?c3 ?c4 ?c5 ?_)
  case c3 => unfold maxLen; omega
  case c4 => omega
  case c5 => omega
  intro v' w2 hown' hgrow _
  have hlt : b < w1.heap.size := lt_of_block hbk
  have hne : v.ownBlock ≠ some b := fun e => by have := (hown.lt b e).1; omega
  have hb2 : w2.heap[b]? = some (.cells #[.pointer (some ⟨b, 0, none⟩), v] 71 (0, 0)) := by
    rw [hgrow.block b hlt (fun e => hne e.symm)]
    exact hbk
  have d0 : w2.cell? ⟨b, 0, none⟩ = some (.pointer (some ⟨b, 0, none⟩)) := by rw [Lib.cell_of_heap hb2]; rfl
  have d1 : w2.cell? ⟨b, 1, none⟩ = some v := by rw [Lib.cell_of_heap hb2]; rfl
  have f1 : w2.frozen? ⟨b, 1, none⟩ = false := Lib.frozen_of_heap hb2 1
  obtain ⟨ao, n', cap, rfl⟩ : ∃ ao n' cap, v' = .slice ao n' cap := by
    rcases hown'.2 with ⟨hv, _⟩ | ⟨g, cap, cur, hv, _⟩
    · exact ⟨_, _, _, hv⟩
    · exact ⟨_, _, _, hv⟩
  have hb12 : Below B w1 w2 := (Below.refl B w1).grown hgrow (by omega) (fun k hk => (hown.lt k hk).1)
  have hbe := ((hb1.trans (ButB.of_below hb12)).setCell 1 (.slice ao n' cap))
  have hput := bld_put (l := l ++ s.data.toList) hbB rfl hb2 hown' (by simp [Lib.strCells_length]) (by unfold Lib.byteCells Lib.strCells; simp)
  clear hb12 hown' hown hgrow hb1
  go_wp2
  go_ret2
  exact ⟨rfl, hput, hbe⟩

theorem bld_String (B b : Nat) (l : List UInt8) (w : World) (h : Bld w B b l) (hBw : B ≤ w.heap.size) :
    Calls Tryd.prog 33 #[.pointer (some ⟨b, 0, none⟩)] w fun e w' => e = .returned (.string ⟨l.toArray⟩) ∧ Below b w w' := by
  obtain ⟨h1, p, v, h2, h3, h4⟩ := h
  have hne : v.ownBlock ≠ some b := fun e => by have := (h4.lt b e).1; omega
  have hw : w.ownsRow b 5 1 v (Lib.byteCells l).length (Lib.byteCells l) := by rw [Lib.byteCells_length]; exact ownsRow_base h4 (Nat.le_of_lt h1)
  have hi : Lib.IsBuilder 71 5 b b (Lib.byteCells l) w := by
    rcases h2 with rfl | rfl
    · exact .inl ⟨Nat.le_refl _, v, h3, hw, hne⟩
    · exact .inr ⟨Nat.le_refl _, v, h3, hw, hne⟩
  exact Tryd.Builder_String_any b b l w hi (by omega)
end Go.Proofs.YtameipbnobaoeaaDoor

/- Bytes in memory that read as a text; slices of bytes that read as one. -/
namespace Go.Proofs.YtameipbnobaoeaaDoor
open Go.RowKit

/-- The bytes of a text stand in memory, from a place of a block on. -/
def BytesIn (w : World) (b off : Nat) (s : ByteArray) : Prop := ∀ j, j < s.size → w.cell? ⟨b, off + j, none⟩ = some (.int .u8 ((byteAt s j).toNat : Int))
theorem BytesIn.below {w w' : World} {b off B : Nat} {s : ByteArray} (h : BytesIn w b off s) (hb : Below B w w') (hg : b < B) : BytesIn w' b off s :=
  fun j hj => (hb.cell (p := ⟨b, off + j, none⟩) hg).trans (h j hj)
theorem BytesIn.drewN {w : World} {b off : Nat} {s : ByteArray} (h : BytesIn w b off s) (n : Nat) : BytesIn (w.drewN n) b off s := h
theorem BytesAt.isIn {w : World} {g : Nat} {s : ByteArray} (h : BytesAt w g s.data.toList) : BytesIn w g 0 s := fun j hj => by rw [Nat.zero_add]; exact h.byte hj

/-- A slice of bytes that reads as a text. -/
def BytesSl (w : World) (v : Value) (s : ByteArray) : Prop :=
  (s.size = 0 ∧ ∃ a cap, v = .slice a 0 cap) ∨ ∃ b off cap, v = .slice (some ⟨b, off, none⟩) s.size cap ∧ s.size ≤ cap ∧ cap ≤ maxLen ∧ b < w.heap.size ∧ BytesIn w b off s
theorem BytesSl.below {w w' : World} {v : Value} {s : ByteArray} (h : BytesSl w v s) (hb : Below w.heap.size w w') : BytesSl w' v s := by
  rcases h with h | ⟨b, off, cap, e, h1, h2, h3, h4⟩
  · exact .inl h
  · exact .inr ⟨b, off, cap, e, h1, h2, Nat.lt_of_lt_of_le h3 hb.size, h4.below hb h3⟩
theorem BytesSl.drewN {w : World} {v : Value} {s : ByteArray} (h : BytesSl w v s) (n : Nat) : BytesSl (w.drewN n) v s := h

theorem BytesSl.lit (w : World) (l : List UInt8) (cs : Array Value) (n : Nat) (hcs : cs = (l.map byteV).toArray) (hn : n = l.length) (hl : l.length ≤ 16777216) :
    BytesSl (w.alloc (.cells cs 5)) (.slice (some ⟨w.heap.size, 0, none⟩) n n) ⟨l.toArray⟩ := by
  have hsz : (⟨l.toArray⟩ : ByteArray).size = l.length := by show l.toArray.size = _; simp
  refine .inr ⟨w.heap.size, 0, n, by rw [hsz, hn], by rw [hsz, hn]; exact Nat.le_refl _, by unfold maxLen; omega, by simp, fun j hj => ?_⟩
  rw [hsz] at hj
  subst hcs
  rw [World.cell?_alloc_at _ _ _ _ rfl]
  simp [byteAt, byteV, hj]
end Go.Proofs.YtameipbnobaoeaaDoor

/- Bytes that a call owns: appending bytes, or a string's bytes, to them. -/
namespace Go.Proofs.YtameipbnobaoeaaDoor
open Go.RowKit

theorem info_byte : (Tryd.prog.info? 5).map (fun i => (i.zero, i.size, i.bytes)) = some (some (.int .u8 0), 1, 1) := by kernel_rfl

/-- A slice of bytes of the call's own. -/
def OwnB (w : World) (base : Nat) (v : Value) (l : List UInt8) : Prop := w.ownsRow base 5 1 v l.length (l.map byteV)

section
variable {w w' : World} {base : Nat} {v : Value} {l : List UInt8}
theorem OwnB.nil (w : World) (base : Nat) : OwnB w base (.slice none 0 0) [] := World.ownsRow_nil _ _ _ _
theorem OwnB.lit (w : World) (l : List UInt8) (cs : Array Value) (n : Nat) (hcs : cs = (l.map byteV).toArray) (hn : n = l.length) (hb : base ≤ w.heap.size) (hl : l.length ≤ 16777216) :
    OwnB (w.alloc (.cells cs 5)) base (.slice (some ⟨w.heap.size, 0, none⟩) n n) l := by
  subst hn
  have h := World.ownsRow_lit (base := base) (e := 5) (size := 1) w cs l.length hb (by unfold maxLen; omega) (by rw [hcs]; simp)
  unfold OwnB
  rw [hcs] at h ⊢
  simpa using h
theorem OwnB.below (h : OwnB w base v l) (hb : Below w.heap.size w w') : OwnB w' base v l := ownsRow_below h hb
theorem OwnB.base' {b : Nat} (h : OwnB w base v l) (hb : b ≤ base) : OwnB w b v l := ownsRow_base h hb
theorem OwnB.shape (h : OwnB w base v l) : (l = [] ∧ v = .slice none 0 0) ∨ ∃ g cap, v = .slice (some ⟨g, 0, none⟩) l.length cap ∧ l.length ≤ cap ∧ cap ≤ maxLen ∧ base ≤ g ∧ g < w.heap.size := by
  rcases h.2 with ⟨h0, h1⟩ | ⟨g, cap, cur, rfl, hg, hh, h1, h2, _⟩
  · exact .inl ⟨List.eq_nil_of_length_eq_zero h1, h0⟩
  · exact .inr ⟨g, cap, rfl, h1, h2, hg, lt_of_block hh⟩
theorem OwnB.sl (h : OwnB w base v l) : BytesSl w v ⟨l.toArray⟩ := by
  have hsz : (⟨l.toArray⟩ : ByteArray).size = l.length := by show l.toArray.size = _; simp
  rcases h.shape with ⟨rfl, rfl⟩ | ⟨g, cap, rfl, h1, h2, _, h4⟩
  · exact .inl ⟨rfl, none, 0, rfl⟩
  · refine .inr ⟨g, 0, cap, by rw [hsz], by rw [hsz]; exact h1, h2, h4, fun j hj => ?_⟩
    rw [hsz] at hj
    rw [Nat.zero_add, World.ownsRow.cellAt h j (by omega)]
    simp [hj, byteV, byteAt]
end

section
variable {w : World} {ops : Array Oper} {rest : List Oper} {o : Oper} {a : Act} {Q : Exit → Act → World → Prop}

theorem wpList_app_bytes (hgd : o.guard = none) (s x : Operand) (ho : o.op = .call { callee := .builtin .append, args := #[s, x], argTypes := #[55, 55] })
    (base : Nat) (v : Value) (l : List UInt8) (hs : a.eval s = v) (hown : OwnB w base v l) (y : Value) (S : ByteArray) (hx : a.eval x = y) (hy : BytesSl w y S)
    (hl : l.length + S.size ≤ 1073741824) (hbase : base ≤ w.heap.size)
    (h : ∀ v' w', OwnB w' base v' (l ++ S.data.toList) → w.grownBy w' v.ownBlock → wpList Tryd.prog ops Q rest (a.put o.dst v') w') : wpList Tryd.prog ops Q (o :: rest) a w := by
  obtain ⟨i, hi, hz, hsize, hby⟩ := info_parts info_byte
  have hSl : S.data.toList.length = S.size := rfl
  rcases hy with ⟨h0, ad, cap, rfl⟩ | ⟨b, off, cap, rfl, hc, hcm, hbs, hp⟩
  · have hS : S.data.toList = [] := List.eq_nil_of_length_eq_zero (by rw [hSl]; exact h0)
    have hsrc : Src Tryd.prog i.size 55 (.slice ad 0 cap) 0 [] w := by
      cases ad with
      | none => exact Src.ofNil w Tryd.underlying55 cap
      | some ad => exact Src.ofSlice w Tryd.underlying55 ad 0 cap [] (by simp) (by simp) (by simp)
    refine wpList_plain hgd fun K hK => ?_
    have hrun : (Builtin.append_ #[55, 55] o.type #[v, .slice ad 0 cap]).run Tryd.prog w = .ok v w := by
      rcases hown.shape with ⟨_, rfl⟩ | ⟨g, c, rfl, h1, _⟩
      · exact run_append_nothing w _ _ _ 5 i Tryd.underlying55 hi none 0 0 (Nat.le_refl _) _ hsrc
      · exact run_append_nothing w _ _ _ 5 i Tryd.underlying55 hi _ _ _ h1 _ hsrc
    unfold Oper.wp
    simp [execOp, ho, resolve, invoke, builtin, hs, hx, hrun, Result.andThen]
    refine hK _ _ (h v w (by rw [hS, List.append_nil]; exact hown) (below_grownBy (Below.refl _ _) _))
  · refine wpList_append_own _ hgd s x 55 ho base 5 i (.int .u8 0) 1 1 Tryd.underlying55 hi hz hsize hby rfl (by decide) v _ _ hs hown _ _ cap (S.data.toList.map byteV) hx (by simp [hSl]) ?_ ?_ (by unfold maxLen; omega) (by omega) hbase ?_
    · intro j u hj
      have hj' : j < S.size := by
        have := (List.getElem?_eq_some_iff.1 hj).1
        simpa [hSl] using this
      rw [Addr.add_lit, hp j hj', ← hj]
      have hj2 : j < S.data.toList.length := hj'
      simp only [List.getElem?_map, List.getElem?_eq_getElem hj2, Option.map_some, byteV, byteAt, List.getD, Option.getD_some]
    · intro u hu
      obtain ⟨_, _, rfl⟩ := List.mem_map.1 hu
      rfl
    · intro v' w' h1 h2 _
      refine h v' w' ?_ h2
      unfold OwnB
      rw [List.length_append, List.map_append, hSl]
      exact h1
end
end Go.Proofs.YtameipbnobaoeaaDoor

/- Where a call's own bytes grow, what stood before stands. -/
namespace Go.Proofs.YtameipbnobaoeaaDoor
open Go.RowKit

theorem OwnB.under {w0 w w' : World} {base : Nat} {v : Value} {l : List UInt8} (h : OwnB w base v l) (hb : Below w0.heap.size w0 w) (hB : w0.heap.size ≤ base) (hg : w.grownBy w' v.ownBlock) : Below w0.heap.size w0 w' :=
  hb.grown hg hb.size (fun j hj => Nat.le_trans hB (World.ownsRow.lt h j hj).1)
theorem row_len {w : World} {base : Nat} {e : TypeId} {size : Nat} {v : Value} {n : Nat} {xs : List Value} (h : w.ownsRow base e size v n xs) : ∃ a cap, v = .slice a n cap := by
  rcases h.2 with ⟨h0, h1⟩ | ⟨g, cap, cur, rfl, _⟩
  · exact ⟨none, 0, by rw [h0, h1]⟩
  · exact ⟨_, _, rfl⟩
end Go.Proofs.YtameipbnobaoeaaDoor

/- Plain facts on rows of bytes. -/
namespace Go.Proofs.YtameipbnobaoeaaDoor

theorem ba_ext {a b : ByteArray} (h : a.data.toList = b.data.toList) : a = b := by
  cases a; cases b; simp only [ByteArray.mk.injEq]; exact Array.toList_inj.1 h

theorem data_append (a b : ByteArray) : (a ++ b).data.toList = a.data.toList ++ b.data.toList := by
  rw [ByteArray.data_append]; exact Array.toList_append

end Go.Proofs.YtameipbnobaoeaaDoor

/- strings.Join of four short texts with points between. -/
namespace Go.Proofs.YtameipbnobaoeaaDoor
open Go.RowKit

/-- Four texts lie in a row. -/
def Four (w : World) (g : Nat) (a b c d : ByteArray) : Prop := g < w.heap.size ∧ w.cell? ⟨g, 0, none⟩ = some (.string a) ∧ w.cell? ⟨g, 1, none⟩ = some (.string b) ∧ w.cell? ⟨g, 2, none⟩ = some (.string c) ∧ w.cell? ⟨g, 3, none⟩ = some (.string d)
theorem Four.kept {w w' : World} {g : Nat} {a b c d : ByteArray} (h : Four w g a b c d) (hs : w.heap.size ≤ w'.heap.size) (hb : w'.heap[g]? = w.heap[g]?) : Four w' g a b c d := by
  obtain ⟨h0, h1, h2, h3, h4⟩ := h
  exact ⟨by omega, (World.cell?_of_block hb).trans h1, (World.cell?_of_block hb).trans h2, (World.cell?_of_block hb).trans h3, (World.cell?_of_block hb).trans h4⟩
theorem Four.below {w w' : World} {g : Nat} {a b c d : ByteArray} (h : Four w g a b c d) (hb : Below w.heap.size w w') : Four w' g a b c d := h.kept hb.size (hb.block g h.1)
theorem Four.but {w w' : World} {g B q : Nat} {a b c d : ByteArray} (h : Four w g a b c d) (hb : ButB B q w w') (h1 : g < q) (h2 : q < B) : Four w' g a b c d := h.kept hb.size (hb.block g (by omega) (by omega))
/-- What Grow leaves is a builder of our kind. -/
theorem bld_of_grown {w : World} {b : Nat} (h : Lib.BuilderAt 71 5 b b (.pointer (some ⟨b, 0, none⟩)) [] w) : Bld w (b + 1) b [] := by
  obtain ⟨hB, v, hb, hown, hne⟩ := h
  refine ⟨by omega, _, v, .inr rfl, hb, ?_⟩
  refine ⟨hown.1, ?_⟩
  rcases hown.2 with h0 | ⟨q, cap, cur, hv, hq, r⟩
  · exact .inl h0
  · subst hv
    have : q ≠ b := fun e => hne (by rw [e]; rfl)
    exact .inr ⟨q, cap, cur, rfl, by omega, r⟩
def joinL (a b c d : ByteArray) : List UInt8 := a.data.toList ++ 46 :: (b.data.toList ++ 46 :: (c.data.toList ++ 46 :: d.data.toList))
set_option maxHeartbeats 6400000 in
set_option maxRecDepth 100000 in
theorem join4 (g cap : Nat) (a b c d : ByteArray) (w : World) (h : Four w g a b c d) (ha : a.size ≤ 3) (hb : b.size ≤ 3) (hc : c.size ≤ 3) (hd : d.size ≤ 3) (hcap : 4 ≤ cap) (hcm : cap ≤ maxLen) :
    Calls Tryd.prog 22 #[.slice (some ⟨g, 0, none⟩) 4 cap, .string ⟨#[46]⟩] w fun e w' => e = .returned (.string ⟨(joinL a b c d).toArray⟩) ∧ Below w.heap.size w w' := by
  have hal : a.data.toList.length = a.size := rfl
  have hbl : b.data.toList.length = b.size := rfl
  have hcl : c.data.toList.length = c.size := rfl
  have hdl : d.data.toList.length = d.size := rfl
  have hpt : (⟨#[46]⟩ : ByteArray).data.toList = [46] := rfl
  obtain ⟨h0, h1, h2, h3, h4⟩ := id h
  have H := Lib.hid h
  have hnew : (w.alloc (.cells #[.pointer none, .slice none 0 0] 71)).heap[w.heap.size]? = some (.cells #[.pointer none, .slice none 0 0] 71 (0, 0)) := heap_alloc_new w _
  have cG := Lib.hid (fun n hn => Tryd.Builder_Grow_fresh w.heap.size w.heap.size n (w.alloc (.cells #[.pointer none, .slice none 0 0] 71)) (Nat.le_refl _) hnew (by simp) hn)
  unfold maxLen at hcm
  clear h hnew
  go_enter Tryd.func22, Tryd.ntmps22
  go_wp2_with fail
  refine wp_loop_rounds 5 ?_
  rw [rounds_succ]
  go_wp2_with fail
  rw [rounds_succ]
  go_wp2_with fail
  rw [rounds_succ]
  go_wp2_with fail
  rw [rounds_succ]
  go_wp2_with fail
  rw [rounds_succ]
  go_wp2_with fail
  have e1 : (3 : Int) + (a.size : Int) + (b.size : Int) + (c.size : Int) + (d.size : Int) = ((3 + a.size + b.size + c.size + d.size : Nat) : Int) := by omega
  rw [e1]
  refine (cG.out (3 + a.size + b.size + c.size + d.size) (by omega)).mono ?_
  rintro e w2 ⟨rfl, hB, hb2⟩
  have hbr2 := bld_of_grown hB
  have hs2 : w.heap.size + 1 ≤ w2.heap.size := by have := hb2.size; simpa using this
  have hF2 : Four w2 g a b c d := H.out.kept (by omega) ((hb2.block g H.out.1).trans (heap_alloc_old w _ H.out.1))
  have hB2 : Below w.heap.size w w2 := ((Below.refl w.heap.size w).alloc (Nat.le_refl _) _).trans hb2
  have hg := H.out.1
  clear hB hb2 e1 h0 h1 h2 h3 h4
  obtain ⟨f0, f1, f2, f3, f4⟩ := id hF2
  go_wp2_with fail
  refine (bld_WriteString (w.heap.size + 1) w.heap.size [] a _ hbr2 (by simp; omega) hs2).mono ?_
  rintro e w3 ⟨rfl, hbr3, hbu3⟩
  have hF3 := hF2.but hbu3 hg (by omega)
  have hs3 : w.heap.size + 1 ≤ w3.heap.size := by have := hbu3.size; omega
  have hB3 : Below w.heap.size w w3 := hB2.trans (hbu3.below (Nat.le_refl _) (by omega))
  clear f0 f1 f2 f3 f4 hF2 hbr2 hs2 hB2 hbu3
  obtain ⟨f0, f1, f2, f3, f4⟩ := id hF3
  go_wp2_with fail
  refine wp_loop_rounds 4 ?_
  rw [rounds_succ]
  go_wp2_with fail
  refine (bld_WriteString (w.heap.size + 1) w.heap.size ([] ++ a.data.toList) ⟨#[46]⟩ _ hbr3 (by show List.length _ + 1 ≤ _; simp [hpt]; omega) hs3).mono ?_
  rintro e w4 ⟨rfl, hbr4, hbu4⟩
  have hF4 := hF3.but hbu4 hg (by omega)
  have hs4 : w.heap.size + 1 ≤ w4.heap.size := by have := hbu4.size; omega
  have hB4 : Below w.heap.size w w4 := hB3.trans (hbu4.below (Nat.le_refl _) (by omega))
  clear f0 f1 f2 f3 f4 hF3 hbr3 hs3 hB3 hbu4
  obtain ⟨f0, f1, f2, f3, f4⟩ := id hF4
  go_wp2_with fail
  refine (bld_WriteString (w.heap.size + 1) w.heap.size (([] ++ a.data.toList) ++ (⟨#[46]⟩ : ByteArray).data.toList) b _ hbr4 (by simp [hpt]; omega) hs4).mono ?_
  rintro e w5 ⟨rfl, hbr5, hbu5⟩
  have hF5 := hF4.but hbu5 hg (by omega)
  have hs5 : w.heap.size + 1 ≤ w5.heap.size := by have := hbu5.size; omega
  have hB5 : Below w.heap.size w w5 := hB4.trans (hbu5.below (Nat.le_refl _) (by omega))
  clear f0 f1 f2 f3 f4 hF4 hbr4 hs4 hB4 hbu5
  obtain ⟨f0, f1, f2, f3, f4⟩ := id hF5
  go_wp2_with fail
  rw [rounds_succ]
  go_wp2_with fail
  refine (bld_WriteString (w.heap.size + 1) w.heap.size ((([] ++ a.data.toList) ++ (⟨#[46]⟩ : ByteArray).data.toList) ++ b.data.toList) ⟨#[46]⟩ _ hbr5 (by show List.length _ + 1 ≤ _; simp [hpt]; omega) hs5).mono ?_
  rintro e w6 ⟨rfl, hbr6, hbu6⟩
  have hF6 := hF5.but hbu6 hg (by omega)
  have hs6 : w.heap.size + 1 ≤ w6.heap.size := by have := hbu6.size; omega
  have hB6 : Below w.heap.size w w6 := hB5.trans (hbu6.below (Nat.le_refl _) (by omega))
  clear f0 f1 f2 f3 f4 hF5 hbr5 hs5 hB5 hbu6
  obtain ⟨f0, f1, f2, f3, f4⟩ := id hF6
  go_wp2_with fail
  refine (bld_WriteString (w.heap.size + 1) w.heap.size (((([] ++ a.data.toList) ++ (⟨#[46]⟩ : ByteArray).data.toList) ++ b.data.toList) ++ (⟨#[46]⟩ : ByteArray).data.toList) c _ hbr6 (by simp [hpt]; omega) hs6).mono ?_
  rintro e w7 ⟨rfl, hbr7, hbu7⟩
  have hF7 := hF6.but hbu7 hg (by omega)
  have hs7 : w.heap.size + 1 ≤ w7.heap.size := by have := hbu7.size; omega
  have hB7 : Below w.heap.size w w7 := hB6.trans (hbu7.below (Nat.le_refl _) (by omega))
  clear f0 f1 f2 f3 f4 hF6 hbr6 hs6 hB6 hbu7
  obtain ⟨f0, f1, f2, f3, f4⟩ := id hF7
  go_wp2_with fail
  rw [rounds_succ]
  go_wp2_with fail
  refine (bld_WriteString (w.heap.size + 1) w.heap.size ((((([] ++ a.data.toList) ++ (⟨#[46]⟩ : ByteArray).data.toList) ++ b.data.toList) ++ (⟨#[46]⟩ : ByteArray).data.toList) ++ c.data.toList) ⟨#[46]⟩ _ hbr7 (by show List.length _ + 1 ≤ _; simp [hpt]; omega) hs7).mono ?_
  rintro e w8 ⟨rfl, hbr8, hbu8⟩
  have hF8 := hF7.but hbu8 hg (by omega)
  have hs8 : w.heap.size + 1 ≤ w8.heap.size := by have := hbu8.size; omega
  have hB8 : Below w.heap.size w w8 := hB7.trans (hbu8.below (Nat.le_refl _) (by omega))
  clear f0 f1 f2 f3 f4 hF7 hbr7 hs7 hB7 hbu8
  obtain ⟨f0, f1, f2, f3, f4⟩ := id hF8
  go_wp2_with fail
  refine (bld_WriteString (w.heap.size + 1) w.heap.size (((((([] ++ a.data.toList) ++ (⟨#[46]⟩ : ByteArray).data.toList) ++ b.data.toList) ++ (⟨#[46]⟩ : ByteArray).data.toList) ++ c.data.toList) ++ (⟨#[46]⟩ : ByteArray).data.toList) d _ hbr8 (by simp [hpt]; omega) hs8).mono ?_
  rintro e w9 ⟨rfl, hbr9, hbu9⟩
  have hF9 := hF8.but hbu9 hg (by omega)
  have hs9 : w.heap.size + 1 ≤ w9.heap.size := by have := hbu9.size; omega
  have hB9 : Below w.heap.size w w9 := hB8.trans (hbu9.below (Nat.le_refl _) (by omega))
  clear f0 f1 f2 f3 f4 hF8 hbr8 hs8 hB8 hbu9
  obtain ⟨f0, f1, f2, f3, f4⟩ := id hF9
  go_wp2_with fail
  rw [rounds_succ]
  go_wp2_with fail
  refine (bld_String _ _ _ _ hbr9 hs9).mono ?_
  rintro e wz ⟨rfl, hbz⟩
  have hBz := hB9.trans hbz
  go_wp2_with fail
  go_ret
  exact ⟨rfl, hBz⟩
end Go.Proofs.YtameipbnobaoeaaDoor

/- Of the reference of chapter 02: Has, Same. -/
namespace Go.Proofs.YtameipbnobaoeaaDoor
open Go.RowKit

/-- Strings stand in the cells of a block, from a place on. -/
def StrRow (w : World) (b off n : Nat) (l : List ByteArray) : Prop := l.length = n ∧ ∀ i, i < n → w.cell? ⟨b, off + i, none⟩ = some (.string (l.getD i ByteArray.empty))
theorem StrRow.below {w w' : World} {b off n B : Nat} {l : List ByteArray} (h : StrRow w b off n l) (hb : Below B w w') (hg : b < B) : StrRow w' b off n l :=
  ⟨h.1, fun i hi => (hb.cell (p := ⟨b, off + i, none⟩) hg).trans (h.2 i hi)⟩
theorem StrRow.drewN {w : World} {b off n : Nat} {l : List ByteArray} (h : StrRow w b off n l) (m : Nat) : StrRow (w.drewN m) b off n l := h
theorem StrRow.of_own {w : World} {base : Nat} {e : TypeId} {g n cap : Nat} {l : List ByteArray} (h : w.ownsRow base e 1 (.slice (some ⟨g, 0, none⟩) n cap) n (l.map strV)) : StrRow w g 0 n l := by
  have hl : l.length = n := by have := h.1; simpa using this
  refine ⟨hl, fun i hi => ?_⟩
  rw [Nat.zero_add, h.cellAt i (by omega)]
  simp [strV, hl, hi]

def hasB (s : ByteArray) (c : UInt8) : Bool := (List.range s.size).any fun i => byteAt s i == c
theorem hasB_yes {s : ByteArray} {c : UInt8} {k : Nat} (hk : k < s.size) (h : byteAt s k = c) : hasB s c = true := by
  unfold hasB; rw [List.any_eq_true]; exact ⟨k, by simpa using hk, by simpa using h⟩
theorem hasB_no {s : ByteArray} {c : UInt8} (h : ∀ j, j < s.size → byteAt s j ≠ c) : hasB s c = false := by
  unfold hasB; rw [List.any_eq_false]; intro j hj; simpa using h j (by simpa using hj)

theorem str_eqB (a b : ByteArray) : (a.toList == b.toList) = decide (a = b) := by
  rw [ByteArray.toList_eq, ByteArray.toList_eq, Bool.eq_iff_iff]
  simp only [beq_iff_eq, decide_eq_true_eq, Array.toList_inj]
  exact ⟨fun h => by cases a; cases b; simp_all, fun h => by rw [h]⟩


end Go.Proofs.YtameipbnobaoeaaDoor
