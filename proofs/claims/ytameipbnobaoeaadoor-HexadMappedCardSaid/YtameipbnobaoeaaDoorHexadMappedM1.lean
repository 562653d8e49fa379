/- Small laws of my own for walks: a conversion of a string to bytes, in the form of a continuation; a row of bytes in memory. -/
import Derived.Test.YtameipbnobaoeaaDoorRows
import Derived.WalkKit
import Derived.WalkSpells
import Derived.WalkLawsBesides
import Derived.Lib.Hide
import Derived.Lib.Strings
import Derived.Deep.Draws
import Derived.BigQuiet
import Derived.Deep.QuietTactic
import Derived.Test.YtameipbnobaoeaaDoorShelf
import Derived.Shelf.Spec.BitsCarry

namespace Go.Proofs.YtameipbnobaoeaaDoor
open Go.RowKit

def byteV (b : UInt8) : Value := .int .u8 (b.toNat : Int)

/-- The bytes l stand at the head of block g, and none of the block's cells is frozen. -/
def BytesAt (w : World) (g : Nat) (l : List UInt8) : Prop :=
  ∃ (e : TypeId) (rest : List Value) (lo hi : Nat), (hi ≤ lo ∨ l.length + rest.length ≤ lo) ∧ w.heap[g]? = some (.cells (l.map byteV ++ rest).toArray e (lo, hi))

section
variable {w w' : World} {g B : Nat} {l : List UInt8}
theorem BytesAt.lt (h : BytesAt w g l) : g < w.heap.size := by
  obtain ⟨e, rest, lo, hi, _, hb⟩ := h
  exact lt_of_block hb
theorem BytesAt.below (h : BytesAt w g l) (hb : Below B w w') (hg : g < B) : BytesAt w' g l := by
  obtain ⟨e, rest, lo, hi, hlo, hh⟩ := h
  exact ⟨e, rest, lo, hi, hlo, (hb.block g hg).trans hh⟩
theorem BytesAt.grown {row : Option Nat} (h : BytesAt w g l) (hb : w.grownBy w' row) (hne : some g ≠ row) : BytesAt w' g l := by
  have hl := h.lt
  obtain ⟨e, rest, lo, hi, hlo, hh⟩ := h
  exact ⟨e, rest, lo, hi, hlo, (hb.block g hl hne).trans hh⟩
theorem BytesAt.alloc (h : BytesAt w g l) (o : Obj) : BytesAt (w.alloc o) g l := by
  have hl := h.lt
  obtain ⟨e, rest, lo, hi, hlo, hh⟩ := h
  exact ⟨e, rest, lo, hi, hlo, (Below.heap_alloc w o g hl).trans hh⟩
theorem BytesAt.cell (h : BytesAt w g l) {k : Nat} (hk : k < l.length) : w.cell? ⟨g, k, none⟩ = some (.int .u8 ((l.getD k 0).toNat : Int)) := by
  obtain ⟨e, rest, lo, hi, hlo, hh⟩ := h
  rw [cell_of_row w g k _ e _ hh]
  simp [hk, List.getElem?_append, byteV]
theorem BytesAt.frozen (h : BytesAt w g l) {k : Nat} (hk : k < l.length) : w.frozen? ⟨g, k, none⟩ = false := by
  obtain ⟨e, rest, lo, hi, hlo, hh⟩ := h
  simp [World.frozen?, hh]
  omega
theorem BytesAt.store (h : BytesAt w g l) {k : Nat} (hk : k < l.length) (b : UInt8) : BytesAt (w.setCell ⟨g, k, none⟩ (.int .u8 (b.toNat : Int))) g (l.set k b) := by
  obtain ⟨e, rest, lo, hi, hlo, hh⟩ := h
  refine ⟨e, rest, lo, hi, by simpa using hlo, ?_⟩
  simp only [World.setCell, Array.getElem?_modify, hh]
  simp [List.setIfInBounds_toArray, hk, byteV, List.map_set]
theorem BytesAt.stored (h : BytesAt w g l) {a : Addr} (ha : a.block ≠ g) (u : Value) : BytesAt (w.setCell a u) g l := by
  obtain ⟨e, rest, lo, hi, hlo, hh⟩ := h
  exact ⟨e, rest, lo, hi, hlo, (Below.heap_setCell w a u g (fun h => ha h.symm)).trans hh⟩
end

/-- The byte of a string at a place; 0 behind its end. (A plain definition: the walk leaves it as it stands.) -/
def byteAt (s : ByteArray) (k : Nat) : UInt8 := s.data.toList.getD k 0
theorem BytesAt.byte {w : World} {g : Nat} {s : ByteArray} (h : BytesAt w g s.data.toList) {k : Nat} (hk : k < s.size) : w.cell? ⟨g, k, none⟩ = some (.int .u8 ((byteAt s k).toNat : Int)) :=
  h.cell (by simpa using hk)
theorem u8_ne {a b : UInt8} (h : a ≠ b) : ((a.toNat : Int) != (b.toNat : Int)) = true := by
  simp only [bne_iff_ne, ne_eq, Int.ofNat_inj, UInt8.toNat_inj]; exact h
theorem u8_eq {a b : UInt8} (h : a = b) : ((a.toNat : Int) != (b.toNat : Int)) = false := by subst h; simp
theorem u8_eq' {a b : UInt8} (h : a = b) : ((a.toNat : Int) == (b.toNat : Int)) = true := by subst h; simp
theorem u8_ne' {a b : UInt8} (h : a ≠ b) : ((a.toNat : Int) == (b.toNat : Int)) = false := by
  simp only [beq_eq_false_iff_ne, ne_eq, Int.ofNat_inj, UInt8.toNat_inj]; exact h
theorem Bt {w w1 w2 : World} (h1 : Below w.heap.size w w1) (h2 : Below w1.heap.size w1 w2) : Below w.heap.size w w2 := h1.trans (h2.mono h1.size)
theorem below_drewN {B : Nat} {a w : World} (h : Below B a w) (n : Nat) : Below B a (w.drewN n) := ⟨h.os, h.tape, h.output, h.size, h.block⟩
theorem below_grownBy {w w' : World} (hb : Below w.heap.size w w') (row : Option Nat) : w.grownBy w' row := ⟨hb.os, hb.tape, hb.output, hb.size, fun k hk _ => hb.block k hk⟩
theorem ownsRow_below {w w' : World} {base : Nat} {e : TypeId} {size : Nat} {v : Value} {n : Nat} {xs : List Value} (h : w.ownsRow base e size v n xs) (hb : Below w.heap.size w w') : w'.ownsRow base e size v n xs :=
  h.kept (below_grownBy hb none) (by cases v.ownBlock <;> simp)
theorem below_app {w wr w2 : World} {base : Nat} {o : Obj} {e : TypeId} {size : Nat} {v : Value} {n : Nat} {xs : List Value} (hb : Below w.heap.size w wr) (hown : wr.ownsRow base e size v n xs) (hB : w.heap.size ≤ base) (hg : (wr.alloc o).grownBy w2 v.ownBlock) :
    Below w.heap.size w w2 := (hb.alloc hb.size o).grown hg (by simp; have := hb.size; omega) (fun j hj => Nat.le_trans hB (hown.lt j hj).1)
theorem isEmpty_no {s : ByteArray} (h : 0 < s.size) : s.toList.isEmpty = false := by
  rw [ByteArray.toList_eq, List.isEmpty_eq_false_iff]
  intro e
  have : s.data.toList.length = 0 := by rw [e]; rfl
  have : s.size = s.data.toList.length := rfl
  omega
theorem isEmpty_yes {s : ByteArray} (h : s.size = 0) : s.toList.isEmpty = true := by
  rw [ByteArray.toList_eq, List.isEmpty_iff]
  exact List.eq_nil_of_length_eq_zero h
def strV (s : ByteArray) : Value := .string s
theorem ownsRow_base {w : World} {base base' : Nat} {e : TypeId} {size : Nat} {v : Value} {n : Nat} {xs : List Value} (h : w.ownsRow base e size v n xs) (hb : base' ≤ base) : w.ownsRow base' e size v n xs := by
  refine ⟨h.1, ?_⟩
  rcases h.2 with h0 | ⟨g, cap, cur, hv, hg, r⟩
  · exact .inl h0
  · exact .inr ⟨g, cap, cur, hv, by omega, r⟩
theorem ownsRow_form {w : World} {base : Nat} {e : TypeId} {size : Nat} {v : Value} {n : Nat} {xs : List Value} (h : w.ownsRow base e size v n xs) (hn : 0 < n) :
    ∃ g cap, v = .slice (some ⟨g, 0, none⟩) n cap ∧ base ≤ g ∧ g < w.heap.size := by
  rcases h.2 with ⟨_, h0⟩ | ⟨g, cap, cur, rfl, hg, hh, _⟩
  · omega
  · exact ⟨g, cap, rfl, hg, lt_of_block hh⟩

/-- An error that is a fault of a kind at a place, and what it came from. -/
def FaultIs (w : World) (v : Value) (kind at_ : Int) (inner : Value) : Prop :=
  ∃ b, v = .iface 80 (.pointer (some ⟨b, 0, none⟩)) ∧ w.heap[b]? = some (.cells #[.int .i64 kind, .int .i64 at_, inner] 84 (0, 0))
/-- An error that is a fault of a kind at a place, of nothing within. -/
def IsFault (w : World) (v : Value) (kind at_ : Int) : Prop := FaultIs w v kind at_ .nilIface
/-- An error of a kind at a place; 0: none. -/
def IsErr (w : World) (v : Value) (kind at_ : Nat) : Prop := (kind = 0 ∧ v = .nilIface) ∨ (kind ≠ 0 ∧ ∃ inner, FaultIs w v kind at_ inner)
theorem FaultIs.below {w w' : World} {v : Value} {k i : Int} {n : Value} (h : FaultIs w v k i n) (hb : Below w.heap.size w w') : FaultIs w' v k i n := by
  obtain ⟨b, rfl, hh⟩ := h
  exact ⟨b, rfl, (hb.block b (lt_of_block hh)).trans hh⟩
theorem IsErr.below {w w' : World} {v : Value} {k i : Nat} (h : IsErr w v k i) (hb : Below w.heap.size w w') : IsErr w' v k i := by
  rcases h with h | ⟨h, n, h2⟩
  · exact .inl h
  · exact .inr ⟨h, n, h2.below hb⟩
theorem FaultIs.ne_nil {w : World} {v : Value} {k i : Int} {n : Value} (h : FaultIs w v k i n) : ∃ p, v = .iface 80 p := by
  obtain ⟨b, rfl, _⟩ := h
  exact ⟨_, rfl⟩
theorem IsFault.ne_nil {w : World} {v : Value} {k i : Int} (h : IsFault w v k i) : ∃ p, v = .iface 80 p := FaultIs.ne_nil h

theorem ret_str {a b : ByteArray} (h : a = b) : Ending.returned (.string a) = .returned (.string b) := by rw [h]
theorem ret_bool {a b : Bool} (h : a = b) : Ending.returned (.bool a) = .returned (.bool b) := by rw [h]
theorem ret_u64 {a b : Int} (h : a = b) : Ending.returned (.int .u64 a) = .returned (.int .u64 b) := by rw [h]
theorem ret_i64 {a b : Int} (h : a = b) : Ending.returned (.int .i64 a) = .returned (.int .i64 b) := by rw [h]

section
variable {P : Program}
theorem run_back (w : World) (src dst e : TypeId) (g cap : Nat) (l : List UInt8) (hs : P.underlying src = some (.slice e)) (he : P.underlying e = some (.int .u8)) (hd : P.underlying dst = some .string)
    (h : BytesAt w g l) : (convert src dst (.slice (some ⟨g, 0, none⟩) l.length cap)).run P w = .ok (.string ⟨l.toArray⟩) w := by
  refine run_convert_bytes_back w src dst e ⟨g, 0, none⟩ cap l hs he hd (fun j hj => ?_)
  have := h.cell hj
  simp only [Addr.add_lit, Nat.zero_add, this]
  simp [hj]

theorem run_back_at (w : World) (src dst e : TypeId) (g o n cap : Nat) (pre l : List UInt8) (ho : pre.length = o) (hn : l.length = n) (hs : P.underlying src = some (.slice e)) (he : P.underlying e = some (.int .u8)) (hd : P.underlying dst = some .string)
    (h : BytesAt w g (pre ++ l)) : (convert src dst (.slice (some ⟨g, o, none⟩) n cap)).run P w = .ok (.string ⟨l.toArray⟩) w := by
  subst hn
  refine run_convert_bytes_back w src dst e ⟨g, o, none⟩ cap l hs he hd (fun j hj => ?_)
  have := h.cell (k := o + j) (by simp; omega)
  simp only [Addr.add_lit, this]
  subst ho
  simp [hj]

theorem wpList_bytes {ops : Array Oper} {rest : List Oper} {o : Oper} {a : Act} {w : World} {Q : Exit → Act → World → Prop} (hgd : o.guard = none) (src dst e : TypeId) (x : Operand)
    (ho : o.op = .convert src dst x) (s : ByteArray) (hx : a.eval x = .string s) (hs : P.underlying src = some .string) (hd : P.underlying dst = some (.slice e)) (he : P.underlying e = some (.int .u8))
    (h : ∀ (cap : Nat) (w' : World), s.size ≤ cap → BytesAt w' w.heap.size s.data.toList → Below w.heap.size w w' → w'.heap.size = w.heap.size + 1 →
      wpList P ops Q rest (a.put o.dst (.slice (some ⟨w.heap.size, 0, none⟩) s.size cap)) w') : wpList P ops Q (o :: rest) a w := by
  refine wpList_plain hgd fun K hK => ?_
  unfold Oper.wp execOp
  have hr := run_bytes_of_string (P := P) w src dst e s hs hd he
  simp only [ho, hx, Sem.run_bind, hr, Result.andThen_ok, Sem.run_pure]
  refine hK _ _ (h _ _ (grownCap_ge w s.size 0 e) ?_ (((Below.refl _ _).drew).alloc (Nat.le_refl _) _) (by simp))
  refine ⟨e, List.replicate (grownCap w s.size 0 e - s.size) (Value.int .u8 0), _, s.data.toList.length + (List.replicate (grownCap w s.size 0 e - s.size) (Value.int .u8 0)).length + 1, .inr (Nat.le_refl _), ?_⟩
  refine (heap_alloc_new w.drew _).trans ?_
  have hb : bytesRow s (grownCap w s.size 0 e) = (List.map byteV s.data.toList ++ List.replicate (grownCap w s.size 0 e - s.size) (Value.int .u8 0)).toArray := by
    unfold bytesRow
    apply Array.ext'
    simp [byteV]
  have hsz : (bytesRow s (grownCap w s.size 0 e)).size = s.data.toList.length + (List.replicate (grownCap w s.size 0 e - s.size) (Value.int .u8 0)).length := by
    rw [hb]; simp
  rw [hsz, hb]
end
end Go.Proofs.YtameipbnobaoeaaDoor

/- The contracts of package api: Fail makes a fault in a new block. -/
namespace Go.Proofs.YtameipbnobaoeaaDoor
open Go.RowKit

theorem api_Fail (k i : Int) (w : World) : Calls Tryd.prog 28 #[.int .i64 k, .int .i64 i] w fun e w' =>
    e = .returned (.iface 80 (.pointer (some ⟨w.heap.size, 0, none⟩))) ∧ w.alloc (.cells #[.int .i64 k, .int .i64 i, .nilIface] 84) = w' := by
  go_enter Tryd.func28, Tryd.ntmps28
  go_wp2
  go_ret
  exact ⟨rfl, rfl⟩

theorem api_Fail' (k i : Int) (w : World) : Calls Tryd.prog 28 #[.int .i64 k, .int .i64 i] w fun e w' =>
    ∃ v, e = .returned v ∧ IsFault w' v k i ∧ Below w.heap.size w w' :=
  (api_Fail k i w).mono fun _ _ ⟨he, hw⟩ => ⟨_, he, ⟨_, rfl, by rw [← hw]; exact heap_alloc_new w _⟩, by rw [← hw]; exact (Below.refl _ _).alloc (Nat.le_refl _) _⟩
end Go.Proofs.YtameipbnobaoeaaDoor

/- fold.value and fold.number: the number of a text's digits. -/
namespace Go.Proofs.YtameipbnobaoeaaDoor
open Go.RowKit

/-- A digit's value; 99 where it is none. -/
def valN (n : Nat) : Nat := if 48 ≤ n ∧ n ≤ 57 then n - 48 else if 97 ≤ n ∧ n ≤ 102 then n - 87 else if 65 ≤ n ∧ n ≤ 70 then n - 55 else 99


set_option maxHeartbeats 1600000 in
theorem fold_value (n : Nat) (hn : n < 256) (w : World) : Calls Tryd.prog 67 #[.int .u8 (n : Int)] w fun e w' => e = .returned (.int .u64 (valN n : Nat)) ∧ w = w' := by
  have hc : n < 48 ∨ (48 ≤ n ∧ n ≤ 57) ∨ (57 < n ∧ n < 65) ∨ (65 ≤ n ∧ n ≤ 70) ∨ (70 < n ∧ n < 97) ∨ (97 ≤ n ∧ n ≤ 102) ∨ 102 < n := by omega
  have hv : n < 48 ∨ (57 < n ∧ n < 65) ∨ (70 < n ∧ n < 97) ∨ 102 < n → valN n = 99 := by
    intro h; unfold valN; rw [if_neg (by omega), if_neg (by omega), if_neg (by omega)]
  have hv1 : 48 ≤ n ∧ n ≤ 57 → valN n = n - 48 := by intro h; unfold valN; rw [if_pos h]
  have hv2 : 97 ≤ n ∧ n ≤ 102 → valN n = n - 87 := by intro h; unfold valN; rw [if_neg (by omega), if_pos h]
  have hv3 : 65 ≤ n ∧ n ≤ 70 → valN n = n - 55 := by intro h; unfold valN; rw [if_neg (by omega), if_neg (by omega), if_pos h]
  have HV := Lib.hid hv
  have HV1 := Lib.hid hv1
  have HV2 := Lib.hid hv2
  have HV3 := Lib.hid hv3
  clear hv hv1 hv2 hv3
  rcases hc with h | ⟨h, h'⟩ | ⟨h, h'⟩ | ⟨h, h'⟩ | ⟨h, h'⟩ | ⟨h, h'⟩ | h
  all_goals
    go_enter Tryd.func67, Tryd.ntmps67
    go_wp2
    go_ret
  · exact ⟨ret_u64 (by rw [HV.out (by omega)]; rfl), rfl⟩
  · exact ⟨ret_u64 (by rw [HV1.out (by omega)]; omega), rfl⟩
  · exact ⟨ret_u64 (by rw [HV.out (by omega)]; rfl), rfl⟩
  · exact ⟨ret_u64 (by rw [HV3.out (by omega)]; omega), rfl⟩
  · exact ⟨ret_u64 (by rw [HV.out (by omega)]; rfl), rfl⟩
  · exact ⟨ret_u64 (by rw [HV2.out (by omega)]; omega), rfl⟩
  · exact ⟨ret_u64 (by rw [HV.out (by omega)]; rfl), rfl⟩

theorem bits_Mul64 (x y : Nat) (hx : x < 18446744073709551616) (hy : y < 18446744073709551616) (w : World) :
    Calls Tryd.prog 68 #[.int .u64 (x : Int), .int .u64 (y : Int)] w fun e w' => ∃ hi lo : Nat, e = .returned (.tuple #[.int .u64 (hi : Int), .int .u64 (lo : Int)]) ∧ Hid (hi * 18446744073709551616 + lo = x * y) ∧ lo < 18446744073709551616 ∧ w = w' :=
  (Tryd.bits_Mul64 x y hx hy w).mono fun _ _ ⟨he, hw⟩ => ⟨_, _, he, Lib.hid (by have := Nat.div_add_mod (x * y) 18446744073709551616; omega), Nat.mod_lt _ (by omega), hw.symm⟩

theorem bits_Add64 (x y : Nat) (hx : x < 18446744073709551616) (hy : y < 18446744073709551616) : ∃ s c : Nat, (∀ w : World, (callFunc 69 #[.int .u64 (x : Int), .int .u64 (y : Int), .int .u64 0]).run Tryd.prog w = .ok (.value (.tuple #[.int .u64 (s : Int), .int .u64 (c : Int)])) w) ∧ Hid (c * 18446744073709551616 + s = x + y) ∧ s < 18446744073709551616 ∧ c ≤ 1 := by
  refine ⟨(x + y) % 18446744073709551616, (x + y) / 18446744073709551616, fun w => ?_, Lib.hid (by have := Nat.div_add_mod (x + y) 18446744073709551616; omega), Nat.mod_lt _ (by omega), by omega⟩
  rw [run_callFunc_extern Tryd.func69 (by kernel_rfl) (by kernel_rfl) (by kernel_rfl) (e := add64Entry) (by kernel_rfl) _ w, run_add64 x y 0 (by omega) (by omega) (by omega) (by omega)]
  simp only [Result.andThen]
  congr 5 <;> omega

/-- The number that the first k bytes give. -/
def numTo (base : Nat) (s : ByteArray) : Nat → Nat
  | 0 => 0
  | k + 1 => numTo base s k * base + valN (byteAt s k).toNat

/-- The first byte that is no digit of the base. -/
def firstBad (base : Nat) (s : ByteArray) : Option Nat := (List.range s.size).find? fun i => decide (base ≤ valN (byteAt s i).toNat)

/-- A text's number, of a base, at most another one: the number, the error's kind (0: none), its place. -/
def numRes (s : ByteArray) (base most : Nat) : Nat × Nat × Nat :=
  if s.size = 0 then (0, 10, 0) else match firstBad base s with
    | some i => (0, 11, i)
    | none => if 18446744073709551616 ≤ numTo base s s.size ∨ most < numTo base s s.size then (0, 16, 0) else (numTo base s s.size, 0, 0)

theorem firstBad_some {base : Nat} {s : ByteArray} {i : Nat} (hi : i < s.size) (h : ∀ j, j < i → valN (byteAt s j).toNat < base) (hb : base ≤ valN (byteAt s i).toNat) : firstBad base s = some i := by
  unfold firstBad
  rw [List.find?_range_eq_some]
  exact ⟨by simpa using hb, by simpa using hi, fun j hj => by simpa using h j hj⟩
theorem firstBad_none {base : Nat} {s : ByteArray} (h : ∀ j, j < s.size → valN (byteAt s j).toNat < base) : firstBad base s = none := by
  unfold firstBad
  rw [List.find?_eq_none]
  intro j hj
  simpa using h j (by simpa using hj)

theorem numTo_le (base : Nat) (s : ByteArray) (hb : 1 ≤ base) {j k : Nat} (h : j ≤ k) : numTo base s j ≤ numTo base s k := by
  induction h with
  | refl => exact Nat.le_refl _
  | step _ ih => exact Nat.le_trans ih (Nat.le_trans (Nat.le_mul_of_pos_right _ hb) (Nat.le_add_right _ _))

def NumPost (s : ByteArray) (base most : Nat) (w : World) (e : Ending) (w' : World) : Prop :=
  ∃ v, e = .returned (.tuple #[.int .u64 ((numRes s base most).1 : Int), v]) ∧ IsErr w' v (numRes s base most).2.1 (numRes s base most).2.2 ∧ Below w.heap.size w w'

theorem NumPost.bad {s : ByteArray} {base most : Nat} {w w' : World} {i : Nat} {v : Value} (hi : i < s.size) (h : ∀ j, j < i → valN (byteAt s j).toNat < base) (hb : base ≤ valN (byteAt s i).toNat)
    (hv : IsFault w' v 11 i) (hw : Below w.heap.size w w') : NumPost s base most w (.returned (.tuple #[.int .u64 0, v])) w' := by
  have e : numRes s base most = (0, 11, i) := by rw [numRes, if_neg (by omega), firstBad_some hi h hb]
  exact ⟨v, by rw [e]; rfl, .inr ⟨by rw [e]; exact (by decide : (11 : Nat) ≠ 0), _, by rw [e]; exact hv⟩, hw⟩
theorem NumPost.over {s : ByteArray} {base most : Nat} {w w' : World} {v : Value} (h0 : 0 < s.size) (h : ∀ j, j < s.size → valN (byteAt s j).toNat < base)
    (ho : 18446744073709551616 ≤ numTo base s s.size ∨ most < numTo base s s.size)
    (hv : IsFault w' v 16 0) (hw : Below w.heap.size w w') : NumPost s base most w (.returned (.tuple #[.int .u64 0, v])) w' := by
  have e : numRes s base most = (0, 16, 0) := by rw [numRes, if_neg (by omega), firstBad_none h]; exact if_pos ho
  exact ⟨v, by rw [e]; rfl, .inr ⟨by rw [e]; decide, _, by rw [e]; exact hv⟩, hw⟩
theorem NumPost.good {s : ByteArray} {base most : Nat} {w w' : World} {n : Int} (h0 : 0 < s.size) (h : ∀ j, j < s.size → valN (byteAt s j).toNat < base)
    (ho : ¬ (18446744073709551616 ≤ numTo base s s.size ∨ most < numTo base s s.size)) (hn : n = numTo base s s.size)
    (hw : Below w.heap.size w w') : NumPost s base most w (.returned (.tuple #[.int .u64 n, .nilIface])) w' := by
  have e : numRes s base most = (numTo base s s.size, 0, 0) := by rw [numRes, if_neg (by omega), firstBad_none h]; exact if_neg ho
  exact ⟨_, by rw [e, hn], .inl ⟨by rw [e], rfl⟩, hw⟩

/-- The state of the loop behind k bytes: the number as far as it fits; whether it does not. -/
def NumSt (base : Nat) (s : ByteArray) (k n : Nat) (o : Bool) : Prop := o = decide (18446744073709551616 ≤ numTo base s k) ∧ (numTo base s k < 18446744073709551616 → n = numTo base s k) ∧ ∀ j, j < k → valN (byteAt s j).toNat < base
theorem NumSt.zero (base : Nat) (s : ByteArray) : NumSt base s 0 0 false := ⟨rfl, fun _ => rfl, fun j hj => by omega⟩
theorem NumSt.step {base : Nat} {s : ByteArray} {k n hi lo sm c : Nat} {o : Bool} (hb : 1 ≤ base) (h : NumSt base s k n o) (hd : valN (byteAt s k).toNat < base)
    (h1 : hi * 18446744073709551616 + lo = n * base) (h2 : c * 18446744073709551616 + sm = lo + valN (byteAt s k).toNat) (h3 : sm < 18446744073709551616) (o' : Bool)
    (ho : o' = (o || decide (0 < hi + c))) : NumSt base s (k + 1) sm o' := by
  obtain ⟨e1, e2, e3⟩ := h
  have hle := numTo_le base s hb (Nat.le_succ k)
  refine ⟨?_, ?_, fun j hj => ?_⟩
  · rw [ho, e1]
    change numTo base s k ≤ numTo base s (k + 1) at hle
    by_cases hx : 18446744073709551616 ≤ numTo base s k
    · rw [decide_eq_true hx, decide_eq_true (Nat.le_trans hx hle)]; rfl
    · rw [decide_eq_false hx, Bool.false_or]
      have hn := e2 (by omega)
      rw [decide_eq_decide, numTo, ← hn, ← h1]
      omega
  · intro hlt
    have hn := e2 (Nat.lt_of_le_of_lt hle hlt)
    have : numTo base s (k + 1) = n * base + valN (byteAt s k).toNat := by rw [numTo, hn]
    omega
  · by_cases hjk : j = k
    · subst hjk; exact hd
    · exact e3 j (by omega)

theorem NumPost.none_ {s : ByteArray} {base most : Nat} {w w' : World} {v : Value} (h0 : s.size = 0)
    (hv : IsFault w' v 10 0) (hw : Below w.heap.size w w') : NumPost s base most w (.returned (.tuple #[.int .u64 0, v])) w' := by
  have e : numRes s base most = (0, 10, 0) := by rw [numRes, if_pos h0]
  exact ⟨v, by rw [e]; rfl, .inr ⟨by rw [e]; exact (by decide : (10 : Nat) ≠ 0), _, by rw [e]; exact hv⟩, hw⟩

set_option maxHeartbeats 1600000 in
set_option maxRecDepth 100000 in
theorem fold_number (s : ByteArray) (base most : Nat) (w : World) (hs : s.size ≤ 140737488351232) (hb : 2 ≤ base) (hb2 : base ≤ 16) (hm : most < 18446744073709551616) :
    Calls Tryd.prog 49 #[.string s, .int .u64 (base : Int), .int .u64 (most : Int)] w (NumPost s base most w) := by
  by_cases h0 : s.size = 0
  · have hne := isEmpty_yes h0
    have H0 := Lib.hid h0
    clear h0
    go_enter Tryd.func49, Tryd.ntmps49
    go_wp2_with fail
    refine (api_Fail' _ _ _).mono ?_
    rintro e w3 ⟨v, rfl, hv, hb3⟩
    go_wp2_with fail
    go_ret2
    exact NumPost.none_ H0.out hv hb3
  · have hne : s.toList.isEmpty = false := isEmpty_no (by omega)
    go_enter Tryd.func49, Tryd.ntmps49
    go_wp2_with ((with_reducible refine wpList_bytes (o := ⟨some 20, _, _, _, _, _⟩) rfl 9 55 5 _ rfl s rfl Tryd.underlying9 Tryd.underlying55 Tryd.underlying5 ?_); intro cap w1 hcap hB hb1 hsz1)
    have hszle : w.heap.size ≤ w1.heap.size := hb1.size
    clear hne hcap hsz1
    go_loop [6, 8, 22] (fun n o i => ∃ (k m : Nat) (ob : Bool), k ≤ s.size ∧ i = .int .i64 k ∧ n = .int .u64 m ∧ o = .bool ob ∧ m < 18446744073709551616 ∧ NumSt base s k m ob)
      (fun _ _ i => s.size - (intOf i).toNat)
    case atStart => exact ⟨0, 0, false, Nat.zero_le _, rfl, rfl, rfl, by omega, NumSt.zero _ _⟩
    case round =>
      obtain ⟨k, m, ob, hk, rfl, rfl, rfl, hm', hst⟩ := hrel
      have hcell : k < s.size → w1.cell? ⟨w.heap.size, k, none⟩ = some (.int .u8 ((byteAt s k).toNat : Int)) := fun h => hB.byte h
      by_cases hlt : k < s.size
      · have hby : (byteAt s k).toNat < 256 := (byteAt s k).toNat_lt
        by_cases hd : base ≤ valN (byteAt s k).toNat
        · go_wp2_with fail
          refine (fold_value _ hby _).mono ?_
          rintro e w2 ⟨rfl, rfl⟩
          go_wp2_with fail
          refine (api_Fail' _ _ _).mono ?_
          rintro e w3 ⟨v, rfl, hv, hb3⟩
          go_wp2_with fail
          go_ret2
          exact NumPost.bad hlt hst.2.2 hd hv (hb1.trans (hb3.mono hszle))
        · have hd' : valN (byteAt s k).toNat < base := by omega
          go_wp2_with fail
          refine (fold_value _ hby _).mono ?_
          rintro e w2 ⟨rfl, rfl⟩
          go_wp2_with fail
          refine (bits_Mul64 _ _ hm' (by omega) _).mono ?_
          rintro e w2 ⟨hi, lo, rfl, hmul, hlo, rfl⟩
          obtain ⟨sm, cy, hadd, hsum, hsm, hcy⟩ := bits_Add64 lo (valN (byteAt s k).toNat) hlo (by omega)
          have hhi : hi ≤ 15 := by
            have h1 := hmul.out
            have h2 : m * base ≤ 18446744073709551615 * 16 := Nat.mul_le_mul (by omega) hb2
            omega
          have hstep := fun o' ho => NumSt.step (by omega : 1 ≤ base) hst hd' hmul.out hsum.out hsm o' ho
          have HST := Lib.hid hstep
          clear hstep hst
          cases ob
          · go_wp2_with fail
            go_round
            case rel => exact ⟨k + 1, sm, decide (0 < hi + cy), by omega, by go_num, rfl, by congr 1; rw [decide_eq_decide]; omega, hsm, HST.out _ rfl⟩
            case measure => simp [intOf]; omega
          · go_wp2_with fail
            go_round
            case rel => exact ⟨k + 1, sm, true, by omega, by go_num, rfl, rfl, hsm, HST.out _ rfl⟩
            case measure => simp [intOf]; omega
      · obtain rfl : k = s.size := by omega
        have HST := Lib.hid hst
        clear hst
        cases ob
        · by_cases hmm : most < m
          · go_wp2_with fail
            refine (api_Fail' _ _ _).mono ?_
            rintro e w3 ⟨v, rfl, hv, hb3⟩
            go_wp2_with fail
            go_ret2
            refine NumPost.over (by omega) HST.out.2.2 ?_ hv (hb1.trans (hb3.mono hszle))
            by_cases hx : 18446744073709551616 ≤ numTo base s s.size
            · exact .inl hx
            · exact .inr (by rw [← HST.out.2.1 (by omega)]; exact hmm)
          · go_wp2_with fail
            go_ret2
            have hx : ¬ 18446744073709551616 ≤ numTo base s s.size := by
              have := HST.out.1
              simpa using this
            have hn := HST.out.2.1 (by omega)
            exact NumPost.good (by omega) HST.out.2.2 (by omega) (by rw [hn]) hb1
        · go_wp2_with fail
          refine (api_Fail' _ _ _).mono ?_
          rintro e w3 ⟨v, rfl, hv, hb3⟩
          go_wp2_with fail
          go_ret2
          have hx : 18446744073709551616 ≤ numTo base s s.size := by
            have := HST.out.1
            simpa using this
          exact NumPost.over (by omega) HST.out.2.2 (.inl hx) hv (hb1.trans (hb3.mono hszle))

theorem fold_Hex (s : ByteArray) (most : Nat) (w : World) (hs : s.size ≤ 140737488351232) (hm : most < 18446744073709551616) :
    Calls Tryd.prog 36 #[.string s, .int .u64 (most : Int)] w (NumPost s 16 most w) := by
  go_enter Tryd.func36, Tryd.ntmps36
  go_wp2_with fail
  refine (fold_number s 16 most _ hs (by omega) (by omega) hm).mono ?_
  rintro e w1 ⟨v, rfl, hv, hb1⟩
  go_wp2_with fail
  go_ret2
  exact ⟨v, rfl, hv, hb1⟩

theorem cast_max : (((18446744073709551615 : Nat) : Nat) : Int) = 18446744073709551615 := rfl
theorem fold_Hex_max (s : ByteArray) (w : World) (hs : s.size ≤ 140737488351232) : Calls Tryd.prog 36 #[.string s, .int .u64 18446744073709551615] w (NumPost s 16 18446744073709551615 w) := by
  have h := fold_Hex s 18446744073709551615 w hs (by omega)
  rw [cast_max] at h
  exact h
/-- What is told where the number is right. -/
theorem NumPost.right {s : ByteArray} {base most n : Nat} {w w' : World} {e : Ending} (h : NumPost s base most w e w') (hr : numRes s base most = (n, 0, 0)) : e = .returned (.tuple #[.int .u64 (n : Int), .nilIface]) ∧ Below w.heap.size w w' := by
  obtain ⟨v, rfl, hv, hb⟩ := h
  rw [hr] at hv
  rcases hv with ⟨_, rfl⟩ | ⟨h, _⟩
  · exact ⟨by rw [hr], hb⟩
  · exact absurd rfl h
end Go.Proofs.YtameipbnobaoeaaDoor
