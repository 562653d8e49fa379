/- Small laws of my own for walks: a conversion of a string to bytes, in the form of a continuation; a row of bytes in memory. -/
import Derived.Test.YtibhohpamnpkcaaGreatDoorRows
import Derived.WalkKit
import Derived.WalkSpells
import Derived.WalkLawsBesides
import Derived.Lib.Hide
import Derived.Lib.Strings
import Derived.Deep.Draws
import Derived.BigQuiet
import Derived.Deep.QuietTactic
import Derived.Deep.AppendSrc
import Derived.Deep.Upon
import Derived.Laws.OwnMore
import Derived.Deep.OwnRows
import Derived.Deep.AppendLies

namespace Go.Proofs.YtibhohpamnpkcaaGreatDoor
open Go.RowKit

def byteV (b : UInt8) : Value := .int .u8 (b.toNat : Int)

/-- The bytes l stand at the head of block g, and none of the block's cells is frozen. -/
def BytesAt (w : World) (g : Nat) (l : List UInt8) : Prop :=
  ∃ (e : TypeId) (rest : List Value) (lo hi : Nat), (hi ≤ lo ∨ l.length + rest.length ≤ lo) ∧ w.heap[g]? = some (.cells (l.map byteV ++ rest).toArray e (lo, hi))

section
variable {w w' : World} {g B : Nat} {l : List UInt8}
theorem BytesAt.lt (h : BytesAt w g l) : g < w.heap.size := by
  obtain ⟨e, rest, lo, hi, _, hb⟩ := h
  exact lt_of_block hb
theorem BytesAt.below (h : BytesAt w g l) (hb : Below B w w') (hg : g < B) : BytesAt w' g l := by
  obtain ⟨e, rest, lo, hi, hlo, hh⟩ := h
  exact ⟨e, rest, lo, hi, hlo, (hb.block g hg).trans hh⟩
theorem BytesAt.grown {row : Option Nat} (h : BytesAt w g l) (hb : w.grownBy w' row) (hne : some g ≠ row) : BytesAt w' g l := by
  have hl := h.lt
  obtain ⟨e, rest, lo, hi, hlo, hh⟩ := h
  exact ⟨e, rest, lo, hi, hlo, (hb.block g hl hne).trans hh⟩
theorem BytesAt.alloc (h : BytesAt w g l) (o : Obj) : BytesAt (w.alloc o) g l := by
  have hl := h.lt
  obtain ⟨e, rest, lo, hi, hlo, hh⟩ := h
  exact ⟨e, rest, lo, hi, hlo, (Below.heap_alloc w o g hl).trans hh⟩
theorem BytesAt.cell (h : BytesAt w g l) {k : Nat} (hk : k < l.length) : w.cell? ⟨g, k, none⟩ = some (.int .u8 ((l.getD k 0).toNat : Int)) := by
  obtain ⟨e, rest, lo, hi, hlo, hh⟩ := h
  rw [cell_of_row w g k _ e _ hh]
  simp [hk, List.getElem?_append, byteV]
theorem BytesAt.frozen (h : BytesAt w g l) {k : Nat} (hk : k < l.length) : w.frozen? ⟨g, k, none⟩ = false := by
  obtain ⟨e, rest, lo, hi, hlo, hh⟩ := h
  simp [World.frozen?, hh]
  omega
theorem BytesAt.store (h : BytesAt w g l) {k : Nat} (hk : k < l.length) (b : UInt8) : BytesAt (w.setCell ⟨g, k, none⟩ (.int .u8 (b.toNat : Int))) g (l.set k b) := by
  obtain ⟨e, rest, lo, hi, hlo, hh⟩ := h
  refine ⟨e, rest, lo, hi, by simpa using hlo, ?_⟩
  simp only [World.setCell, Array.getElem?_modify, hh]
  simp [List.setIfInBounds_toArray, hk, byteV, List.map_set]
theorem BytesAt.stored (h : BytesAt w g l) {a : Addr} (ha : a.block ≠ g) (u : Value) : BytesAt (w.setCell a u) g l := by
  obtain ⟨e, rest, lo, hi, hlo, hh⟩ := h
  exact ⟨e, rest, lo, hi, hlo, (Below.heap_setCell w a u g (fun h => ha h.symm)).trans hh⟩
end

/-- The byte of a string at a place; 0 behind its end. (A plain definition: the walk leaves it as it stands.) -/
def byteAt (s : ByteArray) (k : Nat) : UInt8 := s.data.toList.getD k 0
theorem BytesAt.byte {w : World} {g : Nat} {s : ByteArray} (h : BytesAt w g s.data.toList) {k : Nat} (hk : k < s.size) : w.cell? ⟨g, k, none⟩ = some (.int .u8 ((byteAt s k).toNat : Int)) :=
  h.cell (by simpa using hk)
theorem u8_ne {a b : UInt8} (h : a ≠ b) : ((a.toNat : Int) != (b.toNat : Int)) = true := by
  simp only [bne_iff_ne, ne_eq, Int.ofNat_inj, UInt8.toNat_inj]; exact h
theorem u8_eq {a b : UInt8} (h : a = b) : ((a.toNat : Int) != (b.toNat : Int)) = false := by subst h; simp
theorem u8_eq' {a b : UInt8} (h : a = b) : ((a.toNat : Int) == (b.toNat : Int)) = true := by subst h; simp
theorem u8_ne' {a b : UInt8} (h : a ≠ b) : ((a.toNat : Int) == (b.toNat : Int)) = false := by
  simp only [beq_eq_false_iff_ne, ne_eq, Int.ofNat_inj, UInt8.toNat_inj]; exact h
theorem Bt {w w1 w2 : World} (h1 : Below w.heap.size w w1) (h2 : Below w1.heap.size w1 w2) : Below w.heap.size w w2 := h1.trans (h2.mono h1.size)
theorem below_drewN {B : Nat} {a w : World} (h : Below B a w) (n : Nat) : Below B a (w.drewN n) := ⟨h.os, h.tape, h.output, h.size, h.block⟩
theorem below_grownBy {w w' : World} (hb : Below w.heap.size w w') (row : Option Nat) : w.grownBy w' row := ⟨hb.os, hb.tape, hb.output, hb.size, fun k hk _ => hb.block k hk⟩
theorem ownsRow_below {w w' : World} {base : Nat} {e : TypeId} {size : Nat} {v : Value} {n : Nat} {xs : List Value} (h : w.ownsRow base e size v n xs) (hb : Below w.heap.size w w') : w'.ownsRow base e size v n xs :=
  h.kept (below_grownBy hb none) (by cases v.ownBlock <;> simp)
theorem below_app {w wr w2 : World} {base : Nat} {o : Obj} {e : TypeId} {size : Nat} {v : Value} {n : Nat} {xs : List Value} (hb : Below w.heap.size w wr) (hown : wr.ownsRow base e size v n xs) (hB : w.heap.size ≤ base) (hg : (wr.alloc o).grownBy w2 v.ownBlock) :
    Below w.heap.size w w2 := (hb.alloc hb.size o).grown hg (by simp; have := hb.size; omega) (fun j hj => Nat.le_trans hB (hown.lt j hj).1)
theorem isEmpty_no {s : ByteArray} (h : 0 < s.size) : s.toList.isEmpty = false := by
  rw [ByteArray.toList_eq, List.isEmpty_eq_false_iff]
  intro e
  have : s.data.toList.length = 0 := by rw [e]; rfl
  have : s.size = s.data.toList.length := rfl
  omega
theorem isEmpty_yes {s : ByteArray} (h : s.size = 0) : s.toList.isEmpty = true := by
  rw [ByteArray.toList_eq, List.isEmpty_iff]
  exact List.eq_nil_of_length_eq_zero h
def strV (s : ByteArray) : Value := .string s
theorem ownsRow_base {w : World} {base base' : Nat} {e : TypeId} {size : Nat} {v : Value} {n : Nat} {xs : List Value} (h : w.ownsRow base e size v n xs) (hb : base' ≤ base) : w.ownsRow base' e size v n xs := by
  refine ⟨h.1, ?_⟩
  rcases h.2 with h0 | ⟨g, cap, cur, hv, hg, r⟩
  · exact .inl h0
  · exact .inr ⟨g, cap, cur, hv, by omega, r⟩
theorem ownsRow_form {w : World} {base : Nat} {e : TypeId} {size : Nat} {v : Value} {n : Nat} {xs : List Value} (h : w.ownsRow base e size v n xs) (hn : 0 < n) :
    ∃ g cap, v = .slice (some ⟨g, 0, none⟩) n cap ∧ base ≤ g ∧ g < w.heap.size := by
  rcases h.2 with ⟨_, h0⟩ | ⟨g, cap, cur, rfl, hg, hh, _⟩
  · omega
  · exact ⟨g, cap, rfl, hg, lt_of_block hh⟩

/-- An error that is a fault of a kind at a place, and what it came from. -/
def FaultIs (w : World) (v : Value) (kind at_ : Int) (inner : Value) : Prop :=
  ∃ b, v = .iface 89 (.pointer (some ⟨b, 0, none⟩)) ∧ w.heap[b]? = some (.cells #[.int .i64 kind, .int .i64 at_, inner] 93 (0, 0))
/-- An error that is a fault of a kind at a place, of nothing within. -/
def IsFault (w : World) (v : Value) (kind at_ : Int) : Prop := FaultIs w v kind at_ .nilIface
/-- An error of a kind at a place; 0: none. -/
def IsErr (w : World) (v : Value) (kind at_ : Nat) : Prop := (kind = 0 ∧ v = .nilIface) ∨ (kind ≠ 0 ∧ ∃ inner, FaultIs w v kind at_ inner)
theorem FaultIs.below {w w' : World} {v : Value} {k i : Int} {n : Value} (h : FaultIs w v k i n) (hb : Below w.heap.size w w') : FaultIs w' v k i n := by
  obtain ⟨b, rfl, hh⟩ := h
  exact ⟨b, rfl, (hb.block b (lt_of_block hh)).trans hh⟩
theorem IsErr.below {w w' : World} {v : Value} {k i : Nat} (h : IsErr w v k i) (hb : Below w.heap.size w w') : IsErr w' v k i := by
  rcases h with h | ⟨h, n, h2⟩
  · exact .inl h
  · exact .inr ⟨h, n, h2.below hb⟩
theorem FaultIs.ne_nil {w : World} {v : Value} {k i : Int} {n : Value} (h : FaultIs w v k i n) : ∃ p, v = .iface 89 p := by
  obtain ⟨b, rfl, _⟩ := h
  exact ⟨_, rfl⟩
theorem IsFault.ne_nil {w : World} {v : Value} {k i : Int} (h : IsFault w v k i) : ∃ p, v = .iface 89 p := FaultIs.ne_nil h

theorem ret_str {a b : ByteArray} (h : a = b) : Ending.returned (.string a) = .returned (.string b) := by rw [h]
theorem ret_bool {a b : Bool} (h : a = b) : Ending.returned (.bool a) = .returned (.bool b) := by rw [h]
theorem ret_u64 {a b : Int} (h : a = b) : Ending.returned (.int .u64 a) = .returned (.int .u64 b) := by rw [h]
theorem ret_i64 {a b : Int} (h : a = b) : Ending.returned (.int .i64 a) = .returned (.int .i64 b) := by rw [h]

section
variable {P : Program}
theorem run_back (w : World) (src dst e : TypeId) (g cap : Nat) (l : List UInt8) (hs : P.underlying src = some (.slice e)) (he : P.underlying e = some (.int .u8)) (hd : P.underlying dst = some .string)
    (h : BytesAt w g l) : (convert src dst (.slice (some ⟨g, 0, none⟩) l.length cap)).run P w = .ok (.string ⟨l.toArray⟩) w := by
  refine run_convert_bytes_back w src dst e ⟨g, 0, none⟩ cap l hs he hd (fun j hj => ?_)
  have := h.cell hj
  simp only [Addr.add_lit, Nat.zero_add, this]
  simp [hj]

theorem run_back_at (w : World) (src dst e : TypeId) (g o n cap : Nat) (pre l : List UInt8) (ho : pre.length = o) (hn : l.length = n) (hs : P.underlying src = some (.slice e)) (he : P.underlying e = some (.int .u8)) (hd : P.underlying dst = some .string)
    (h : BytesAt w g (pre ++ l)) : (convert src dst (.slice (some ⟨g, o, none⟩) n cap)).run P w = .ok (.string ⟨l.toArray⟩) w := by
  subst hn
  refine run_convert_bytes_back w src dst e ⟨g, o, none⟩ cap l hs he hd (fun j hj => ?_)
  have := h.cell (k := o + j) (by simp; omega)
  simp only [Addr.add_lit, this]
  subst ho
  simp [hj]

theorem wpList_bytes {ops : Array Oper} {rest : List Oper} {o : Oper} {a : Act} {w : World} {Q : Exit → Act → World → Prop} (hgd : o.guard = none) (src dst e : TypeId) (x : Operand)
    (ho : o.op = .convert src dst x) (s : ByteArray) (hx : a.eval x = .string s) (hs : P.underlying src = some .string) (hd : P.underlying dst = some (.slice e)) (he : P.underlying e = some (.int .u8))
    (h : ∀ (cap : Nat) (w' : World), s.size ≤ cap → BytesAt w' w.heap.size s.data.toList → Below w.heap.size w w' → w'.heap.size = w.heap.size + 1 →
      wpList P ops Q rest (a.put o.dst (.slice (some ⟨w.heap.size, 0, none⟩) s.size cap)) w') : wpList P ops Q (o :: rest) a w := by
  refine wpList_plain hgd fun K hK => ?_
  unfold Oper.wp execOp
  have hr := run_bytes_of_string (P := P) w src dst e s hs hd he
  simp only [ho, hx, Sem.run_bind, hr, Result.andThen_ok, Sem.run_pure]
  refine hK _ _ (h _ _ (grownCap_ge w s.size 0 e) ?_ (((Below.refl _ _).drew).alloc (Nat.le_refl _) _) (by simp))
  refine ⟨e, List.replicate (grownCap w s.size 0 e - s.size) (Value.int .u8 0), _, s.data.toList.length + (List.replicate (grownCap w s.size 0 e - s.size) (Value.int .u8 0)).length + 1, .inr (Nat.le_refl _), ?_⟩
  refine (heap_alloc_new w.drew _).trans ?_
  have hb : bytesRow s (grownCap w s.size 0 e) = (List.map byteV s.data.toList ++ List.replicate (grownCap w s.size 0 e - s.size) (Value.int .u8 0)).toArray := by
    unfold bytesRow
    apply Array.ext'
    simp [byteV]
  have hsz : (bytesRow s (grownCap w s.size 0 e)).size = s.data.toList.length + (List.replicate (grownCap w s.size 0 e - s.size) (Value.int .u8 0)).length := by
    rw [hb]; simp
  rw [hsz, hb]
end
end Go.Proofs.YtibhohpamnpkcaaGreatDoor

/- Bytes in memory that read as a text; slices of bytes that read as one. -/
namespace Go.Proofs.YtibhohpamnpkcaaGreatDoor
open Go.RowKit

/-- The bytes of a text stand in memory, from a place of a block on. -/
def BytesIn (w : World) (b off : Nat) (s : ByteArray) : Prop := ∀ j, j < s.size → w.cell? ⟨b, off + j, none⟩ = some (.int .u8 ((byteAt s j).toNat : Int))
theorem BytesIn.below {w w' : World} {b off B : Nat} {s : ByteArray} (h : BytesIn w b off s) (hb : Below B w w') (hg : b < B) : BytesIn w' b off s :=
  fun j hj => (hb.cell (p := ⟨b, off + j, none⟩) hg).trans (h j hj)
theorem BytesIn.drewN {w : World} {b off : Nat} {s : ByteArray} (h : BytesIn w b off s) (n : Nat) : BytesIn (w.drewN n) b off s := h
theorem BytesAt.isIn {w : World} {g : Nat} {s : ByteArray} (h : BytesAt w g s.data.toList) : BytesIn w g 0 s := fun j hj => by rw [Nat.zero_add]; exact h.byte hj

/-- A slice of bytes that reads as a text. -/
def BytesSl (w : World) (v : Value) (s : ByteArray) : Prop :=
  (s.size = 0 ∧ ∃ a cap, v = .slice a 0 cap) ∨ ∃ b off cap, v = .slice (some ⟨b, off, none⟩) s.size cap ∧ s.size ≤ cap ∧ cap ≤ maxLen ∧ b < w.heap.size ∧ BytesIn w b off s
theorem BytesSl.below {w w' : World} {v : Value} {s : ByteArray} (h : BytesSl w v s) (hb : Below w.heap.size w w') : BytesSl w' v s := by
  rcases h with h | ⟨b, off, cap, e, h1, h2, h3, h4⟩
  · exact .inl h
  · exact .inr ⟨b, off, cap, e, h1, h2, Nat.lt_of_lt_of_le h3 hb.size, h4.below hb h3⟩
theorem BytesSl.drewN {w : World} {v : Value} {s : ByteArray} (h : BytesSl w v s) (n : Nat) : BytesSl (w.drewN n) v s := h

theorem BytesSl.lit (w : World) (l : List UInt8) (cs : Array Value) (n : Nat) (hcs : cs = (l.map byteV).toArray) (hn : n = l.length) (hl : l.length ≤ 16777216) :
    BytesSl (w.alloc (.cells cs 5)) (.slice (some ⟨w.heap.size, 0, none⟩) n n) ⟨l.toArray⟩ := by
  have hsz : (⟨l.toArray⟩ : ByteArray).size = l.length := by show l.toArray.size = _; simp
  refine .inr ⟨w.heap.size, 0, n, by rw [hsz, hn], by rw [hsz, hn]; exact Nat.le_refl _, by unfold maxLen; omega, by simp, fun j hj => ?_⟩
  rw [hsz] at hj
  subst hcs
  rw [World.cell?_alloc_at _ _ _ _ rfl]
  simp [byteAt, byteV, hj]
end Go.Proofs.YtibhohpamnpkcaaGreatDoor

/- Bytes that a call owns: appending bytes, or a string's bytes, to them. -/
namespace Go.Proofs.YtibhohpamnpkcaaGreatDoor
open Go.RowKit

theorem info_byte : (Tryz.prog.info? 5).map (fun i => (i.zero, i.size, i.bytes)) = some (some (.int .u8 0), 1, 1) := by kernel_rfl

/-- A slice of bytes of the call's own. -/
def OwnB (w : World) (base : Nat) (v : Value) (l : List UInt8) : Prop := w.ownsRow base 5 1 v l.length (l.map byteV)

section
variable {w w' : World} {base : Nat} {v : Value} {l : List UInt8}
theorem OwnB.nil (w : World) (base : Nat) : OwnB w base (.slice none 0 0) [] := World.ownsRow_nil _ _ _ _
theorem OwnB.lit (w : World) (l : List UInt8) (cs : Array Value) (n : Nat) (hcs : cs = (l.map byteV).toArray) (hn : n = l.length) (hb : base ≤ w.heap.size) (hl : l.length ≤ 16777216) :
    OwnB (w.alloc (.cells cs 5)) base (.slice (some ⟨w.heap.size, 0, none⟩) n n) l := by
  subst hn
  have h := World.ownsRow_lit (base := base) (e := 5) (size := 1) w cs l.length hb (by unfold maxLen; omega) (by rw [hcs]; simp)
  unfold OwnB
  rw [hcs] at h ⊢
  simpa using h
theorem OwnB.below (h : OwnB w base v l) (hb : Below w.heap.size w w') : OwnB w' base v l := ownsRow_below h hb
theorem OwnB.base' {b : Nat} (h : OwnB w base v l) (hb : b ≤ base) : OwnB w b v l := ownsRow_base h hb
theorem OwnB.shape (h : OwnB w base v l) : (l = [] ∧ v = .slice none 0 0) ∨ ∃ g cap, v = .slice (some ⟨g, 0, none⟩) l.length cap ∧ l.length ≤ cap ∧ cap ≤ maxLen ∧ base ≤ g ∧ g < w.heap.size := by
  rcases h.2 with ⟨h0, h1⟩ | ⟨g, cap, cur, rfl, hg, hh, h1, h2, _⟩
  · exact .inl ⟨List.eq_nil_of_length_eq_zero h1, h0⟩
  · exact .inr ⟨g, cap, rfl, h1, h2, hg, lt_of_block hh⟩
theorem OwnB.sl (h : OwnB w base v l) : BytesSl w v ⟨l.toArray⟩ := by
  have hsz : (⟨l.toArray⟩ : ByteArray).size = l.length := by show l.toArray.size = _; simp
  rcases h.shape with ⟨rfl, rfl⟩ | ⟨g, cap, rfl, h1, h2, _, h4⟩
  · exact .inl ⟨rfl, none, 0, rfl⟩
  · refine .inr ⟨g, 0, cap, by rw [hsz], by rw [hsz]; exact h1, h2, h4, fun j hj => ?_⟩
    rw [hsz] at hj
    rw [Nat.zero_add, World.ownsRow.cellAt h j (by omega)]
    simp [hj, byteV, byteAt]
end

section
variable {w : World} {ops : Array Oper} {rest : List Oper} {o : Oper} {a : Act} {Q : Exit → Act → World → Prop}

theorem wpList_app_bytes (hgd : o.guard = none) (s x : Operand) (ho : o.op = .call { callee := .builtin .append, args := #[s, x], argTypes := #[74, 74] })
    (base : Nat) (v : Value) (l : List UInt8) (hs : a.eval s = v) (hown : OwnB w base v l) (y : Value) (S : ByteArray) (hx : a.eval x = y) (hy : BytesSl w y S)
    (hl : l.length + S.size ≤ 1073741824) (hbase : base ≤ w.heap.size)
    (h : ∀ v' w', OwnB w' base v' (l ++ S.data.toList) → w.grownBy w' v.ownBlock → wpList Tryz.prog ops Q rest (a.put o.dst v') w') : wpList Tryz.prog ops Q (o :: rest) a w := by
  obtain ⟨i, hi, hz, hsize, hby⟩ := info_parts info_byte
  have hSl : S.data.toList.length = S.size := rfl
  rcases hy with ⟨h0, ad, cap, rfl⟩ | ⟨b, off, cap, rfl, hc, hcm, hbs, hp⟩
  · have hS : S.data.toList = [] := List.eq_nil_of_length_eq_zero (by rw [hSl]; exact h0)
    have hsrc : Src Tryz.prog i.size 74 (.slice ad 0 cap) 0 [] w := by
      cases ad with
      | none => exact Src.ofNil w Tryz.underlying74 cap
      | some ad => exact Src.ofSlice w Tryz.underlying74 ad 0 cap [] (by simp) (by simp) (by simp)
    refine wpList_plain hgd fun K hK => ?_
    have hrun : (Builtin.append_ #[74, 74] o.type #[v, .slice ad 0 cap]).run Tryz.prog w = .ok v w := by
      rcases hown.shape with ⟨_, rfl⟩ | ⟨g, c, rfl, h1, _⟩
      · exact run_append_nothing w _ _ _ 5 i Tryz.underlying74 hi none 0 0 (Nat.le_refl _) _ hsrc
      · exact run_append_nothing w _ _ _ 5 i Tryz.underlying74 hi _ _ _ h1 _ hsrc
    unfold Oper.wp
    simp [execOp, ho, resolve, invoke, builtin, hs, hx, hrun, Result.andThen]
    refine hK _ _ (h v w (by rw [hS, List.append_nil]; exact hown) (below_grownBy (Below.refl _ _) _))
  · refine wpList_append_own _ hgd s x 74 ho base 5 i (.int .u8 0) 1 1 Tryz.underlying74 hi hz hsize hby rfl (by decide) v _ _ hs hown _ _ cap (S.data.toList.map byteV) hx (by simp [hSl]) ?_ ?_ (by unfold maxLen; omega) (by omega) hbase ?_
    · intro j u hj
      have hj' : j < S.size := by
        have := (List.getElem?_eq_some_iff.1 hj).1
        simpa [hSl] using this
      rw [Addr.add_lit, hp j hj', ← hj]
      have hj2 : j < S.data.toList.length := hj'
      simp only [List.getElem?_map, List.getElem?_eq_getElem hj2, Option.map_some, byteV, byteAt, List.getD, Option.getD_some]
    · intro u hu
      obtain ⟨_, _, rfl⟩ := List.mem_map.1 hu
      rfl
    · intro v' w' h1 h2 _
      refine h v' w' ?_ h2
      unfold OwnB
      rw [List.length_append, List.map_append, hSl]
      exact h1
end
end Go.Proofs.YtibhohpamnpkcaaGreatDoor

/- Where a call's own bytes grow, what stood before stands. -/
namespace Go.Proofs.YtibhohpamnpkcaaGreatDoor
open Go.RowKit

theorem OwnB.under {w0 w w' : World} {base : Nat} {v : Value} {l : List UInt8} (h : OwnB w base v l) (hb : Below w0.heap.size w0 w) (hB : w0.heap.size ≤ base) (hg : w.grownBy w' v.ownBlock) : Below w0.heap.size w0 w' :=
  hb.grown hg hb.size (fun j hj => Nat.le_trans hB (World.ownsRow.lt h j hj).1)
theorem row_len {w : World} {base : Nat} {e : TypeId} {size : Nat} {v : Value} {n : Nat} {xs : List Value} (h : w.ownsRow base e size v n xs) : ∃ a cap, v = .slice a n cap := by
  rcases h.2 with ⟨h0, h1⟩ | ⟨g, cap, cur, rfl, _⟩
  · exact ⟨none, 0, by rw [h0, h1]⟩
  · exact ⟨_, _, rfl⟩
end Go.Proofs.YtibhohpamnpkcaaGreatDoor

/- Requests that wait, in memory: a book of them. -/
namespace Go.Proofs.YtibhohpamnpkcaaGreatDoor
open Go.RowKit

/-- A request. -/
structure Rq where
  id : Int
  app : ByteArray
  apple : Bool
  kind : Int
  text : ByteArray
  url : ByteArray
deriving DecidableEq
/-- A request that waits, and since when. -/
structure Wt where
  r : Rq
  since : Int
def rqC (r : Rq) : List Value := [.int .u64 r.id, .string r.app, .bool r.apple, .int .i64 r.kind, .string r.text, .string r.url]
def rqV (r : Rq) : Value := .agg #[.int .u64 r.id, .string r.app, .bool r.apple, .int .i64 r.kind, .string r.text, .string r.url]
def wtC (x : Wt) : List Value := [.int .u64 x.r.id, .string x.r.app, .bool x.r.apple, .int .i64 x.r.kind, .string x.r.text, .string x.r.url, .int .u64 x.since]
def wtV (x : Wt) : Value := .agg #[.int .u64 x.r.id, .string x.r.app, .bool x.r.apple, .int .i64 x.r.kind, .string x.r.text, .string x.r.url, .int .u64 x.since]
theorem info_rq : (Tryz.prog.info? 35).map (fun i => (i.zero, i.size, i.bytes)) = some (some (.agg #[.int .u64 0, .string ⟨#[]⟩, .bool false, .int .i64 0, .string ⟨#[]⟩, .string ⟨#[]⟩]), 6, 72) := by kernel_rfl
theorem info_wt : (Tryz.prog.info? 82).map (fun i => (i.zero, i.size, i.bytes)) = some (some (.agg #[.int .u64 0, .string ⟨#[]⟩, .bool false, .int .i64 0, .string ⟨#[]⟩, .string ⟨#[]⟩, .int .u64 0]), 7, 80) := by kernel_rfl
def rqsV (l : List Rq) : List Value := l.flatMap rqC
def wtsV (l : List Wt) : List Value := l.flatMap wtC
theorem rqsV_len (l : List Rq) : (rqsV l).length = l.length * 6 := by
  induction l with
  | nil => rfl
  | cons p l ih =>
    unfold rqsV at ih ⊢
    rw [List.flatMap_cons, List.length_append, ih, List.length_cons]
    show 6 + _ = _
    omega
theorem wtsV_len (l : List Wt) : (wtsV l).length = l.length * 7 := by
  induction l with
  | nil => rfl
  | cons p l ih =>
    unfold wtsV at ih ⊢
    rw [List.flatMap_cons, List.length_append, ih, List.length_cons]
    show 7 + _ = _
    omega
theorem rqsV_app (a b : List Rq) : rqsV (a ++ b) = rqsV a ++ rqsV b := by unfold rqsV; exact List.flatMap_append
theorem wtsV_app (a b : List Wt) : wtsV (a ++ b) = wtsV a ++ wtsV b := by unfold wtsV; exact List.flatMap_append
theorem wtsV_at {l : List Wt} {i : Nat} {p : Wt} (h : l[i]? = some p) (j : Nat) (hj : j < 7) : (wtsV l)[i * 7 + j]? = (wtC p)[j]? := by
  induction l generalizing i with
  | nil => simp at h
  | cons q l ih =>
    cases i with
    | zero =>
      simp at h; subst h
      show (wtC q ++ wtsV l)[0 * 7 + j]? = _
      rw [List.getElem?_append_left (by show _ < 7; omega)]
      congr 1; omega
    | succ i =>
      simp at h
      show (wtC q ++ wtsV l)[(i + 1) * 7 + j]? = _
      rw [List.getElem?_append_right (by show 7 ≤ _; omega), ← ih h]
      congr 1
      show (i + 1) * 7 + j - 7 = _
      omega
theorem rqsV_at {l : List Rq} {i : Nat} {p : Rq} (h : l[i]? = some p) (j : Nat) (hj : j < 6) : (rqsV l)[i * 6 + j]? = (rqC p)[j]? := by
  induction l generalizing i with
  | nil => simp at h
  | cons q l ih =>
    cases i with
    | zero =>
      simp at h; subst h
      show (rqC q ++ rqsV l)[0 * 6 + j]? = _
      rw [List.getElem?_append_left (by show _ < 6; omega)]
      congr 1; omega
    | succ i =>
      simp at h
      show (rqC q ++ rqsV l)[(i + 1) * 6 + j]? = _
      rw [List.getElem?_append_right (by show 6 ≤ _; omega), ← ih h]
      congr 1
      show (i + 1) * 6 + j - 6 = _
      omega
theorem rqC_one (p : Rq) : ∀ u ∈ rqC p, u.oneCell' = true := by
  intro u hu
  unfold rqC at hu
  simp at hu
  rcases hu with rfl | rfl | rfl | rfl | rfl | rfl <;> rfl
theorem wtC_one (p : Wt) : ∀ u ∈ wtC p, u.oneCell' = true := by
  intro u hu
  unfold wtC at hu
  simp at hu
  rcases hu with rfl | rfl | rfl | rfl | rfl | rfl | rfl <;> rfl
def OwnR (w : World) (base : Nat) (v : Value) (l : List Rq) : Prop := w.ownsRow base 35 6 v l.length (rqsV l)
def OwnW (w : World) (base : Nat) (v : Value) (l : List Wt) : Prop := w.ownsRow base 82 7 v l.length (wtsV l)
theorem OwnR.below {w w' : World} {base : Nat} {v : Value} {l : List Rq} (h : OwnR w base v l) (hb : Below w.heap.size w w') : OwnR w' base v l := ownsRow_below h hb
theorem OwnW.below {w w' : World} {base : Nat} {v : Value} {l : List Wt} (h : OwnW w base v l) (hb : Below w.heap.size w w') : OwnW w' base v l := ownsRow_below h hb
theorem OwnW.nil (w : World) (base : Nat) : OwnW w base (.slice none 0 0) [] := World.ownsRow_nil _ _ _ _
theorem OwnR.nil (w : World) (base : Nat) : OwnR w base (.slice none 0 0) [] := World.ownsRow_nil _ _ _ _
theorem OwnW.under {w0 w w' : World} {base : Nat} {v : Value} {l : List Wt} (h : OwnW w base v l) (hb : Below w0.heap.size w0 w) (hB : w0.heap.size ≤ base) (hg : w.grownBy w' v.ownBlock) : Below w0.heap.size w0 w' :=
  hb.grown hg hb.size (fun j hj => Nat.le_trans hB (World.ownsRow.lt h j hj).1)
/-- A book: its block, its list's row, how many were asked for. -/
def BookAt (w : World) (base b : Nat) (l : List Wt) (last : Nat) : Prop := ∃ v, base ≤ b ∧ w.heap[b]? = some (.cells #[v, .int .u64 (last : Int)] 79 (0, 0)) ∧ OwnW w base v l ∧ v.ownBlock ≠ some b
end Go.Proofs.YtibhohpamnpkcaaGreatDoor
