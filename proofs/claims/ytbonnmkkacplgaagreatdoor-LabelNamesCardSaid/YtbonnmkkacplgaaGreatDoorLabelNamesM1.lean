/- Small laws of my own for walks: a conversion of a string to bytes, in the form of a continuation; a row of bytes in memory. -/
import Derived.Test.YtbonnmkkacplgaaGreatDoorRows
import Derived.WalkKit
import Derived.WalkSpells
import Derived.WalkLawsBesides
import Derived.Lib.Hide
import Derived.Lib.Strings
import Derived.Deep.Draws
import Derived.BigQuiet
import Derived.Deep.QuietTactic
import Derived.LaidHandle
import Derived.LaidLaws
import Derived.Stop.Joined
import Derived.Lib.LaidU8T
import Derived.Shelf.Unicode.DecodeSlow

namespace Go.Proofs.YtbonnmkkacplgaaGreatDoor
open Go.RowKit

def byteV (b : UInt8) : Value := .int .u8 (b.toNat : Int)

/-- The bytes l stand at the head of block g, and none of the block's cells is frozen. -/
def BytesAt (w : World) (g : Nat) (l : List UInt8) : Prop :=
  ∃ (e : TypeId) (rest : List Value) (lo hi : Nat), (hi ≤ lo ∨ l.length + rest.length ≤ lo) ∧ w.heap[g]? = some (.cells (l.map byteV ++ rest).toArray e (lo, hi))

section
variable {w w' : World} {g B : Nat} {l : List UInt8}
theorem BytesAt.lt (h : BytesAt w g l) : g < w.heap.size := by
  obtain ⟨e, rest, lo, hi, _, hb⟩ := h
  exact lt_of_block hb
theorem BytesAt.below (h : BytesAt w g l) (hb : Below B w w') (hg : g < B) : BytesAt w' g l := by
  obtain ⟨e, rest, lo, hi, hlo, hh⟩ := h
  exact ⟨e, rest, lo, hi, hlo, (hb.block g hg).trans hh⟩
theorem BytesAt.grown {row : Option Nat} (h : BytesAt w g l) (hb : w.grownBy w' row) (hne : some g ≠ row) : BytesAt w' g l := by
  have hl := h.lt
  obtain ⟨e, rest, lo, hi, hlo, hh⟩ := h
  exact ⟨e, rest, lo, hi, hlo, (hb.block g hl hne).trans hh⟩
theorem BytesAt.alloc (h : BytesAt w g l) (o : Obj) : BytesAt (w.alloc o) g l := by
  have hl := h.lt
  obtain ⟨e, rest, lo, hi, hlo, hh⟩ := h
  exact ⟨e, rest, lo, hi, hlo, (Below.heap_alloc w o g hl).trans hh⟩
theorem BytesAt.cell (h : BytesAt w g l) {k : Nat} (hk : k < l.length) : w.cell? ⟨g, k, none⟩ = some (.int .u8 ((l.getD k 0).toNat : Int)) := by
  obtain ⟨e, rest, lo, hi, hlo, hh⟩ := h
  rw [cell_of_row w g k _ e _ hh]
  simp [hk, List.getElem?_append, byteV]
theorem BytesAt.frozen (h : BytesAt w g l) {k : Nat} (hk : k < l.length) : w.frozen? ⟨g, k, none⟩ = false := by
  obtain ⟨e, rest, lo, hi, hlo, hh⟩ := h
  simp [World.frozen?, hh]
  omega
theorem BytesAt.store (h : BytesAt w g l) {k : Nat} (hk : k < l.length) (b : UInt8) : BytesAt (w.setCell ⟨g, k, none⟩ (.int .u8 (b.toNat : Int))) g (l.set k b) := by
  obtain ⟨e, rest, lo, hi, hlo, hh⟩ := h
  refine ⟨e, rest, lo, hi, by simpa using hlo, ?_⟩
  simp only [World.setCell, Array.getElem?_modify, hh]
  simp [List.setIfInBounds_toArray, hk, byteV, List.map_set]
theorem BytesAt.stored (h : BytesAt w g l) {a : Addr} (ha : a.block ≠ g) (u : Value) : BytesAt (w.setCell a u) g l := by
  obtain ⟨e, rest, lo, hi, hlo, hh⟩ := h
  exact ⟨e, rest, lo, hi, hlo, (Below.heap_setCell w a u g (fun h => ha h.symm)).trans hh⟩
end

/-- The byte of a string at a place; 0 behind its end. (A plain definition: the walk leaves it as it stands.) -/
def byteAt (s : ByteArray) (k : Nat) : UInt8 := s.data.toList.getD k 0
theorem BytesAt.byte {w : World} {g : Nat} {s : ByteArray} (h : BytesAt w g s.data.toList) {k : Nat} (hk : k < s.size) : w.cell? ⟨g, k, none⟩ = some (.int .u8 ((byteAt s k).toNat : Int)) :=
  h.cell (by simpa using hk)
theorem u8_ne {a b : UInt8} (h : a ≠ b) : ((a.toNat : Int) != (b.toNat : Int)) = true := by
  simp only [bne_iff_ne, ne_eq, Int.ofNat_inj, UInt8.toNat_inj]; exact h
theorem u8_eq {a b : UInt8} (h : a = b) : ((a.toNat : Int) != (b.toNat : Int)) = false := by subst h; simp
theorem u8_eq' {a b : UInt8} (h : a = b) : ((a.toNat : Int) == (b.toNat : Int)) = true := by subst h; simp
theorem u8_ne' {a b : UInt8} (h : a ≠ b) : ((a.toNat : Int) == (b.toNat : Int)) = false := by
  simp only [beq_eq_false_iff_ne, ne_eq, Int.ofNat_inj, UInt8.toNat_inj]; exact h
theorem Bt {w w1 w2 : World} (h1 : Below w.heap.size w w1) (h2 : Below w1.heap.size w1 w2) : Below w.heap.size w w2 := h1.trans (h2.mono h1.size)
theorem below_drewN {B : Nat} {a w : World} (h : Below B a w) (n : Nat) : Below B a (w.drewN n) := ⟨h.os, h.tape, h.output, h.size, h.block⟩
theorem below_grownBy {w w' : World} (hb : Below w.heap.size w w') (row : Option Nat) : w.grownBy w' row := ⟨hb.os, hb.tape, hb.output, hb.size, fun k hk _ => hb.block k hk⟩
theorem ownsRow_below {w w' : World} {base : Nat} {e : TypeId} {size : Nat} {v : Value} {n : Nat} {xs : List Value} (h : w.ownsRow base e size v n xs) (hb : Below w.heap.size w w') : w'.ownsRow base e size v n xs :=
  h.kept (below_grownBy hb none) (by cases v.ownBlock <;> simp)
theorem below_app {w wr w2 : World} {base : Nat} {o : Obj} {e : TypeId} {size : Nat} {v : Value} {n : Nat} {xs : List Value} (hb : Below w.heap.size w wr) (hown : wr.ownsRow base e size v n xs) (hB : w.heap.size ≤ base) (hg : (wr.alloc o).grownBy w2 v.ownBlock) :
    Below w.heap.size w w2 := (hb.alloc hb.size o).grown hg (by simp; have := hb.size; omega) (fun j hj => Nat.le_trans hB (hown.lt j hj).1)
theorem isEmpty_no {s : ByteArray} (h : 0 < s.size) : s.toList.isEmpty = false := by
  rw [ByteArray.toList_eq, List.isEmpty_eq_false_iff]
  intro e
  have : s.data.toList.length = 0 := by rw [e]; rfl
  have : s.size = s.data.toList.length := rfl
  omega
theorem isEmpty_yes {s : ByteArray} (h : s.size = 0) : s.toList.isEmpty = true := by
  rw [ByteArray.toList_eq, List.isEmpty_iff]
  exact List.eq_nil_of_length_eq_zero h
def strV (s : ByteArray) : Value := .string s
theorem ownsRow_base {w : World} {base base' : Nat} {e : TypeId} {size : Nat} {v : Value} {n : Nat} {xs : List Value} (h : w.ownsRow base e size v n xs) (hb : base' ≤ base) : w.ownsRow base' e size v n xs := by
  refine ⟨h.1, ?_⟩
  rcases h.2 with h0 | ⟨g, cap, cur, hv, hg, r⟩
  · exact .inl h0
  · exact .inr ⟨g, cap, cur, hv, by omega, r⟩
theorem ownsRow_form {w : World} {base : Nat} {e : TypeId} {size : Nat} {v : Value} {n : Nat} {xs : List Value} (h : w.ownsRow base e size v n xs) (hn : 0 < n) :
    ∃ g cap, v = .slice (some ⟨g, 0, none⟩) n cap ∧ base ≤ g ∧ g < w.heap.size := by
  rcases h.2 with ⟨_, h0⟩ | ⟨g, cap, cur, rfl, hg, hh, _⟩
  · omega
  · exact ⟨g, cap, rfl, hg, lt_of_block hh⟩

/-- An error that is a fault of a kind at a place, and what it came from. -/
def FaultIs (w : World) (v : Value) (kind at_ : Int) (inner : Value) : Prop :=
  ∃ b, v = .iface 77 (.pointer (some ⟨b, 0, none⟩)) ∧ w.heap[b]? = some (.cells #[.int .i64 kind, .int .i64 at_, inner] 79 (0, 0))
/-- An error that is a fault of a kind at a place, of nothing within. -/
def IsFault (w : World) (v : Value) (kind at_ : Int) : Prop := FaultIs w v kind at_ .nilIface
/-- An error of a kind at a place; 0: none. -/
def IsErr (w : World) (v : Value) (kind at_ : Nat) : Prop := (kind = 0 ∧ v = .nilIface) ∨ (kind ≠ 0 ∧ ∃ inner, FaultIs w v kind at_ inner)
theorem FaultIs.below {w w' : World} {v : Value} {k i : Int} {n : Value} (h : FaultIs w v k i n) (hb : Below w.heap.size w w') : FaultIs w' v k i n := by
  obtain ⟨b, rfl, hh⟩ := h
  exact ⟨b, rfl, (hb.block b (lt_of_block hh)).trans hh⟩
theorem IsErr.below {w w' : World} {v : Value} {k i : Nat} (h : IsErr w v k i) (hb : Below w.heap.size w w') : IsErr w' v k i := by
  rcases h with h | ⟨h, n, h2⟩
  · exact .inl h
  · exact .inr ⟨h, n, h2.below hb⟩
theorem FaultIs.ne_nil {w : World} {v : Value} {k i : Int} {n : Value} (h : FaultIs w v k i n) : ∃ p, v = .iface 77 p := by
  obtain ⟨b, rfl, _⟩ := h
  exact ⟨_, rfl⟩
theorem IsFault.ne_nil {w : World} {v : Value} {k i : Int} (h : IsFault w v k i) : ∃ p, v = .iface 77 p := FaultIs.ne_nil h

theorem ret_str {a b : ByteArray} (h : a = b) : Ending.returned (.string a) = .returned (.string b) := by rw [h]
theorem ret_bool {a b : Bool} (h : a = b) : Ending.returned (.bool a) = .returned (.bool b) := by rw [h]
theorem ret_u64 {a b : Int} (h : a = b) : Ending.returned (.int .u64 a) = .returned (.int .u64 b) := by rw [h]
theorem ret_i64 {a b : Int} (h : a = b) : Ending.returned (.int .i64 a) = .returned (.int .i64 b) := by rw [h]

section
variable {P : Program}
theorem run_back (w : World) (src dst e : TypeId) (g cap : Nat) (l : List UInt8) (hs : P.underlying src = some (.slice e)) (he : P.underlying e = some (.int .u8)) (hd : P.underlying dst = some .string)
    (h : BytesAt w g l) : (convert src dst (.slice (some ⟨g, 0, none⟩) l.length cap)).run P w = .ok (.string ⟨l.toArray⟩) w := by
  refine run_convert_bytes_back w src dst e ⟨g, 0, none⟩ cap l hs he hd (fun j hj => ?_)
  have := h.cell hj
  simp only [Addr.add_lit, Nat.zero_add, this]
  simp [hj]

theorem run_back_at (w : World) (src dst e : TypeId) (g o n cap : Nat) (pre l : List UInt8) (ho : pre.length = o) (hn : l.length = n) (hs : P.underlying src = some (.slice e)) (he : P.underlying e = some (.int .u8)) (hd : P.underlying dst = some .string)
    (h : BytesAt w g (pre ++ l)) : (convert src dst (.slice (some ⟨g, o, none⟩) n cap)).run P w = .ok (.string ⟨l.toArray⟩) w := by
  subst hn
  refine run_convert_bytes_back w src dst e ⟨g, o, none⟩ cap l hs he hd (fun j hj => ?_)
  have := h.cell (k := o + j) (by simp; omega)
  simp only [Addr.add_lit, this]
  subst ho
  simp [hj]

theorem wpList_bytes {ops : Array Oper} {rest : List Oper} {o : Oper} {a : Act} {w : World} {Q : Exit → Act → World → Prop} (hgd : o.guard = none) (src dst e : TypeId) (x : Operand)
    (ho : o.op = .convert src dst x) (s : ByteArray) (hx : a.eval x = .string s) (hs : P.underlying src = some .string) (hd : P.underlying dst = some (.slice e)) (he : P.underlying e = some (.int .u8))
    (h : ∀ (cap : Nat) (w' : World), s.size ≤ cap → BytesAt w' w.heap.size s.data.toList → Below w.heap.size w w' → w'.heap.size = w.heap.size + 1 →
      wpList P ops Q rest (a.put o.dst (.slice (some ⟨w.heap.size, 0, none⟩) s.size cap)) w') : wpList P ops Q (o :: rest) a w := by
  refine wpList_plain hgd fun K hK => ?_
  unfold Oper.wp execOp
  have hr := run_bytes_of_string (P := P) w src dst e s hs hd he
  simp only [ho, hx, Sem.run_bind, hr, Result.andThen_ok, Sem.run_pure]
  refine hK _ _ (h _ _ (grownCap_ge w s.size 0 e) ?_ (((Below.refl _ _).drew).alloc (Nat.le_refl _) _) (by simp))
  refine ⟨e, List.replicate (grownCap w s.size 0 e - s.size) (Value.int .u8 0), _, s.data.toList.length + (List.replicate (grownCap w s.size 0 e - s.size) (Value.int .u8 0)).length + 1, .inr (Nat.le_refl _), ?_⟩
  refine (heap_alloc_new w.drew _).trans ?_
  have hb : bytesRow s (grownCap w s.size 0 e) = (List.map byteV s.data.toList ++ List.replicate (grownCap w s.size 0 e - s.size) (Value.int .u8 0)).toArray := by
    unfold bytesRow
    apply Array.ext'
    simp [byteV]
  have hsz : (bytesRow s (grownCap w s.size 0 e)).size = s.data.toList.length + (List.replicate (grownCap w s.size 0 e - s.size) (Value.int .u8 0)).length := by
    rw [hb]; simp
  rw [hsz, hb]
end
end Go.Proofs.YtbonnmkkacplgaaGreatDoor

/- What a row's list of package variables gives: errors.errorType; plain data. -/
namespace Go.Proofs.YtbonnmkkacplgaaGreatDoor
open Go.ChangeShapes Go.WideShapes Go.RowKit

/-- The package-level variable that errors.As reads, as the row lists it. -/
def Handle (w : World) : Prop := w.cell? ⟨1, 0, none⟩ = some (.iface 141 (.agg #[.pointer (some ⟨5, 24, none⟩)]))
theorem Handle.below {w w' : World} (h : Handle w) (hb : Below w.heap.size w w') : Handle w' := (hb.cell (World.block_lt_of_cell? w _ h)).trans h
theorem Handle.drewN {w : World} (h : Handle w) (n : Nat) : Handle (w.drewN n) := h

theorem laid_et : Tryz.prog.globalNamed "errors.errorType" = some 1 := by kernel_rfl
theorem laid_row : ((List.range 216).filter fun t => Tryz.prog.rowNamed t [101, 114, 114, 111, 114]) = [24] := by kernel_rfl
theorem laid_size : Tryz.prog.types.size = 216 := by kernel_rfl

theorem handle_of_laid {l : List (String × DataW Unit)} {W : World} (h : laidMetH Tryz.prog l W) (hx : ("errors.errorType", Rows.laid_errors_errorType) ∈ l) : Handle W := by
  have hs : (Rows.laid_errors_errorType : DataW Unit).handleName?.isSome = true := rfl
  have hm : ("errors.errorType", Rows.laid_errors_errorType) ∈ l.filter fun x => x.2.handleName?.isSome := List.mem_filter.2 ⟨hx, hs⟩
  unfold laidMetH at h
  generalize (l.filter fun x => x.2.handleName?.isSome) = fl at h hm
  cases fl with
  | nil => cases hm
  | cons a q =>
    obtain ⟨name, u, ty, e1, e2, e3, e4, e5⟩ := h.2 _ hm
    have en : name = [101, 114, 114, 111, 114] := (Option.some.inj e1).symm
    subst en
    obtain rfl : u = 141 := Option.some.inj (e2.symm.trans (by kernel_rfl))
    have hm : ty ∈ (List.range 216).filter fun t => Tryz.prog.rowNamed t [101, 114, 114, 111, 114] := List.mem_filter.2 ⟨List.mem_range.2 (by rw [← laid_size]; exact e3), e4⟩
    rw [laid_row] at hm
    obtain rfl := List.mem_singleton.1 hm
    have hh : typeHandle Tryz.prog 24 = .pointer (some ⟨5, 24, none⟩) := by kernel_rfl
    rw [hh] at e5
    simpa [Handle] using World.var?_cell laid_et e5 0

theorem data_of_laid {l : List (String × DataW Unit)} {W : World} (h : laidMetH Tryz.prog l W) {n : String} {d : DataW Unit} (hx : (n, d) ∈ l) (hd : d.handleName?.isNone = true) : Lib.VarReads Tryz.prog W n d := by
  unfold laidMetH at h
  generalize hfl : (l.filter fun x => x.2.handleName?.isSome) = fl at h
  cases fl with
  | nil => exact Lib.laidMet.reads h hx
  | cons a q => exact Lib.laidMet.reads h.1 (List.mem_filter.2 ⟨hx, hd⟩)

end Go.Proofs.YtbonnmkkacplgaaGreatDoor

/- What a row's list of package variables gives: errors.errorType, the tables of unicode/utf8. A world that holds them. -/
namespace Go.Proofs.YtbonnmkkacplgaaGreatDoor
open Go.ChangeShapes Go.WideShapes Go.RowKit

/-- The tables of unicode/utf8, as their initialisers lay them. -/
def Utf8Laid (w : World) : Prop := Lib.Utf8Tabs 2 3 w
theorem Utf8Laid.below {w w' : World} (h : Utf8Laid w) (hb : Below w.heap.size w w') : Utf8Laid w' :=
  ⟨fun c hc => (hb.cell (World.block_lt_of_cell? w _ (h.1 c hc))).trans (h.1 c hc),
    fun i hi => ⟨(hb.cell (World.block_lt_of_cell? w _ (h.2 i hi).1)).trans (h.2 i hi).1, (hb.cell (World.block_lt_of_cell? w _ (h.2 i hi).2)).trans (h.2 i hi).2⟩⟩
theorem Utf8Laid.drewN {w : World} (h : Utf8Laid w) (n : Nat) : Utf8Laid (w.drewN n) := h

def u8ren : Go.Shelf.Ren := ⟨fun n => n, fun | 5 => 5 | 119 => 175 | 138 => 177 | 139 => 178 | n => n, fun | 3 => 2 | 4 => 3 | n => n⟩
theorem u8types : U8Types Tryz.prog u8ren := { t5 := Tryz.underlying5, t119 := Tryz.underlying175, t138 := Tryz.underlying177, t139 := Tryz.underlying178 }
theorem u8extra : U8Extra Tryz.prog u8ren := { n3 := by kernel_rfl, n4 := by kernel_rfl, y3 := by kernel_rfl, y4 := by kernel_rfl, c5 := by kernel_rfl, c119 := by kernel_rfl, c138 := by kernel_rfl }
theorem u8first : Lib.firstData = Rows.laid_unicode_utf8_first := by kernel_rfl
theorem u8accept : Lib.acceptData = Rows.laid_unicode_utf8_acceptRanges := by kernel_rfl
def spanT : List Int := [223, 246, 248, 8191, 11264, 12287, 12293, 55295, 63744, 64975, 65008, 65023, 65536, 262143]
/-- The spans of package label, as its text lays them. -/
def SpanLaid (w : World) : Prop := ∀ i, i < 14 → w.cell? ⟨0, i, none⟩ = some (.int .i64 (spanT.getD i 0))
theorem SpanLaid.below {w w' : World} (h : SpanLaid w) (hb : Below w.heap.size w w') : SpanLaid w' := fun i hi => (hb.cell (World.block_lt_of_cell? w _ (h i hi))).trans (h i hi)
theorem span_of_reads {w : World} (h : Lib.VarReads Tryz.prog w "waybill/label.allowed" Rows.laid_waybill_label_allowed) : SpanLaid w := by
  obtain ⟨g, t, cs, fuel, p, hg, hty, hvar, hd⟩ := h
  obtain rfl := Option.some.inj ((show Tryz.prog.globalNamed "waybill/label.allowed" = some 0 by kernel_rfl).symm.trans hg)
  obtain rfl := Option.some.inj ((show (Tryz.prog.globals[0]?).map (·.type) = some 67 by kernel_rfl).symm.trans hty)
  have e : (Rows.laid_waybill_label_allowed : DataW Unit) = .agg ((List.range 7).map fun i => .agg ([spanT.getD (2 * i) 0, spanT.getD (2 * i + 1) 0].map fun z => .lit (.int .i64 z))) := by kernel_rfl
  rw [e] at hd
  have hc : Tryz.prog.cellsOf 66 = 2 := by kernel_rfl
  have h1 : Tryz.prog.cellsOf 3 = 1 := by kernel_rfl
  have each : ∀ i, i < 7 → w.cell? ⟨0, 2 * i, none⟩ = some (.int .i64 (spanT.getD (2 * i) 0)) ∧ w.cell? ⟨0, 2 * i + 1, none⟩ = some (.int .i64 (spanT.getD (2 * i + 1) 0)) := by
    intro i hi
    obtain ⟨fuel', d, q, hdi, he⟩ := Lib.array_elem Tryz.underlying67 hd i hi
    simp only [List.getElem?_map, List.getElem?_range hi, Option.map_some, Option.some.injEq] at hdi
    subst hdi
    rw [hc] at he
    have hcs := Lib.ints_of_struct Tryz.underlying66 (fun j f hj => by
      match j, hj with
      | 0, hj => simp at hj; subst hj; exact ⟨Tryz.underlying3, rfl, h1⟩
      | 1, hj => simp at hj; subst hj; exact ⟨Tryz.underlying3, rfl, h1⟩
      | j + 2, hj => simp at hj) (by rw [hc]; rfl) he
    have e0 := congrArg (·[0]?) hcs
    have e1 := congrArg (·[1]?) hcs
    simp only [List.getElem?_take, List.getElem?_drop] at e0 e1
    constructor
    · rw [World.var?_cell hg hvar (2 * i), ← Array.getElem?_toList]
      simpa [Nat.mul_comm] using e0
    · rw [World.var?_cell hg hvar (2 * i + 1), ← Array.getElem?_toList]
      simpa [Nat.mul_comm] using e1
  intro i hi
  obtain ⟨k, hk | hk⟩ : ∃ k, i = 2 * k ∨ i = 2 * k + 1 := ⟨i / 2, by omega⟩
  · subst hk; exact (each k (by omega)).1
  · subst hk; exact (each k (by omega)).2
noncomputable def laidWorld (os : Os) : World :=
  let w0 := World.holding Tryz.prog os ⟨#[], #[], []⟩
  let h1 := w0.heap.modify 1 fun
      | .cells _ t frozen => .cells #[.iface 141 (.agg #[.pointer (some ⟨5, 24, none⟩)])] t frozen
      | o => o
  let h2 := h1.modify 2 fun
      | .cells _ t frozen => .cells (Lib.firstTab.map (Value.int .u8)).toArray t frozen
      | o => o
  let h3 := h2.modify 3 fun
      | .cells _ t frozen => .cells ((List.range 16).flatMap fun i => [Value.int .u8 (Lib.accLo i : Nat), Value.int .u8 (Lib.accHi i : Nat)]).toArray t frozen
      | o => o
  let h3 := h3.modify 0 fun
      | .cells _ t frozen => .cells (spanT.map (Value.int .i64)).toArray t frozen
      | o => o
  { w0 with heap := h3 }
end Go.Proofs.YtbonnmkkacplgaaGreatDoor

/- Bytes in memory that read as a text; slices of bytes that read as one. -/
namespace Go.Proofs.YtbonnmkkacplgaaGreatDoor
open Go.RowKit

/-- The bytes of a text stand in memory, from a place of a block on. -/
def BytesIn (w : World) (b off : Nat) (s : ByteArray) : Prop := ∀ j, j < s.size → w.cell? ⟨b, off + j, none⟩ = some (.int .u8 ((byteAt s j).toNat : Int))
theorem BytesIn.below {w w' : World} {b off B : Nat} {s : ByteArray} (h : BytesIn w b off s) (hb : Below B w w') (hg : b < B) : BytesIn w' b off s :=
  fun j hj => (hb.cell (p := ⟨b, off + j, none⟩) hg).trans (h j hj)
theorem BytesIn.drewN {w : World} {b off : Nat} {s : ByteArray} (h : BytesIn w b off s) (n : Nat) : BytesIn (w.drewN n) b off s := h
theorem BytesAt.isIn {w : World} {g : Nat} {s : ByteArray} (h : BytesAt w g s.data.toList) : BytesIn w g 0 s := fun j hj => by rw [Nat.zero_add]; exact h.byte hj

/-- A slice of bytes that reads as a text. -/
def BytesSl (w : World) (v : Value) (s : ByteArray) : Prop :=
  (s.size = 0 ∧ ∃ a cap, v = .slice a 0 cap) ∨ ∃ b off cap, v = .slice (some ⟨b, off, none⟩) s.size cap ∧ s.size ≤ cap ∧ cap ≤ maxLen ∧ b < w.heap.size ∧ BytesIn w b off s
theorem BytesSl.below {w w' : World} {v : Value} {s : ByteArray} (h : BytesSl w v s) (hb : Below w.heap.size w w') : BytesSl w' v s := by
  rcases h with h | ⟨b, off, cap, e, h1, h2, h3, h4⟩
  · exact .inl h
  · exact .inr ⟨b, off, cap, e, h1, h2, Nat.lt_of_lt_of_le h3 hb.size, h4.below hb h3⟩
theorem BytesSl.drewN {w : World} {v : Value} {s : ByteArray} (h : BytesSl w v s) (n : Nat) : BytesSl (w.drewN n) v s := h

theorem BytesSl.lit (w : World) (l : List UInt8) (cs : Array Value) (n : Nat) (hcs : cs = (l.map byteV).toArray) (hn : n = l.length) (hl : l.length ≤ 16777216) :
    BytesSl (w.alloc (.cells cs 5)) (.slice (some ⟨w.heap.size, 0, none⟩) n n) ⟨l.toArray⟩ := by
  have hsz : (⟨l.toArray⟩ : ByteArray).size = l.length := by show l.toArray.size = _; simp
  refine .inr ⟨w.heap.size, 0, n, by rw [hsz, hn], by rw [hsz, hn]; exact Nat.le_refl _, by unfold maxLen; omega, by simp, fun j hj => ?_⟩
  rw [hsz] at hj
  subst hcs
  rw [World.cell?_alloc_at _ _ _ _ rfl]
  simp [byteAt, byteV, hj]
end Go.Proofs.YtbonnmkkacplgaaGreatDoor
