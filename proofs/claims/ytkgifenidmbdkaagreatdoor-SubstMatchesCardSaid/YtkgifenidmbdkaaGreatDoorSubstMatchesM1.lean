/- Small laws of my own for walks: a conversion of a string to bytes, in the form of a continuation; a row of bytes in memory. -/
import Derived.Test.YtkgifenidmbdkaaGreatDoorRows
import Derived.WalkKit
import Derived.WalkSpells
import Derived.WalkLawsBesides
import Derived.Lib.Hide
import Derived.Lib.Strings
import Derived.Deep.Draws
import Derived.BigQuiet
import Derived.Deep.QuietTactic

namespace Go.Proofs.YtkgifenidmbdkaaGreatDoor
open Go.RowKit

def byteV (b : UInt8) : Value := .int .u8 (b.toNat : Int)

/-- The bytes l stand at the head of block g, and none of the block's cells is frozen. -/
def BytesAt (w : World) (g : Nat) (l : List UInt8) : Prop :=
  ∃ (e : TypeId) (rest : List Value) (lo hi : Nat), (hi ≤ lo ∨ l.length + rest.length ≤ lo) ∧ w.heap[g]? = some (.cells (l.map byteV ++ rest).toArray e (lo, hi))

section
variable {w w' : World} {g B : Nat} {l : List UInt8}
theorem BytesAt.lt (h : BytesAt w g l) : g < w.heap.size := by
  obtain ⟨e, rest, lo, hi, _, hb⟩ := h
  exact lt_of_block hb
theorem BytesAt.below (h : BytesAt w g l) (hb : Below B w w') (hg : g < B) : BytesAt w' g l := by
  obtain ⟨e, rest, lo, hi, hlo, hh⟩ := h
  exact ⟨e, rest, lo, hi, hlo, (hb.block g hg).trans hh⟩
theorem BytesAt.grown {row : Option Nat} (h : BytesAt w g l) (hb : w.grownBy w' row) (hne : some g ≠ row) : BytesAt w' g l := by
  have hl := h.lt
  obtain ⟨e, rest, lo, hi, hlo, hh⟩ := h
  exact ⟨e, rest, lo, hi, hlo, (hb.block g hl hne).trans hh⟩
theorem BytesAt.alloc (h : BytesAt w g l) (o : Obj) : BytesAt (w.alloc o) g l := by
  have hl := h.lt
  obtain ⟨e, rest, lo, hi, hlo, hh⟩ := h
  exact ⟨e, rest, lo, hi, hlo, (Below.heap_alloc w o g hl).trans hh⟩
theorem BytesAt.cell (h : BytesAt w g l) {k : Nat} (hk : k < l.length) : w.cell? ⟨g, k, none⟩ = some (.int .u8 ((l.getD k 0).toNat : Int)) := by
  obtain ⟨e, rest, lo, hi, hlo, hh⟩ := h
  rw [cell_of_row w g k _ e _ hh]
  simp [hk, List.getElem?_append, byteV]
theorem BytesAt.frozen (h : BytesAt w g l) {k : Nat} (hk : k < l.length) : w.frozen? ⟨g, k, none⟩ = false := by
  obtain ⟨e, rest, lo, hi, hlo, hh⟩ := h
  simp [World.frozen?, hh]
  omega
theorem BytesAt.store (h : BytesAt w g l) {k : Nat} (hk : k < l.length) (b : UInt8) : BytesAt (w.setCell ⟨g, k, none⟩ (.int .u8 (b.toNat : Int))) g (l.set k b) := by
  obtain ⟨e, rest, lo, hi, hlo, hh⟩ := h
  refine ⟨e, rest, lo, hi, by simpa using hlo, ?_⟩
  simp only [World.setCell, Array.getElem?_modify, hh]
  simp [List.setIfInBounds_toArray, hk, byteV, List.map_set]
theorem BytesAt.stored (h : BytesAt w g l) {a : Addr} (ha : a.block ≠ g) (u : Value) : BytesAt (w.setCell a u) g l := by
  obtain ⟨e, rest, lo, hi, hlo, hh⟩ := h
  exact ⟨e, rest, lo, hi, hlo, (Below.heap_setCell w a u g (fun h => ha h.symm)).trans hh⟩
end

/-- The byte of a string at a place; 0 behind its end. (A plain definition: the walk leaves it as it stands.) -/
def byteAt (s : ByteArray) (k : Nat) : UInt8 := s.data.toList.getD k 0
theorem BytesAt.byte {w : World} {g : Nat} {s : ByteArray} (h : BytesAt w g s.data.toList) {k : Nat} (hk : k < s.size) : w.cell? ⟨g, k, none⟩ = some (.int .u8 ((byteAt s k).toNat : Int)) :=
  h.cell (by simpa using hk)
theorem u8_ne {a b : UInt8} (h : a ≠ b) : ((a.toNat : Int) != (b.toNat : Int)) = true := by
  simp only [bne_iff_ne, ne_eq, Int.ofNat_inj, UInt8.toNat_inj]; exact h
theorem u8_eq {a b : UInt8} (h : a = b) : ((a.toNat : Int) != (b.toNat : Int)) = false := by subst h; simp
theorem u8_eq' {a b : UInt8} (h : a = b) : ((a.toNat : Int) == (b.toNat : Int)) = true := by subst h; simp
theorem u8_ne' {a b : UInt8} (h : a ≠ b) : ((a.toNat : Int) == (b.toNat : Int)) = false := by
  simp only [beq_eq_false_iff_ne, ne_eq, Int.ofNat_inj, UInt8.toNat_inj]; exact h
theorem Bt {w w1 w2 : World} (h1 : Below w.heap.size w w1) (h2 : Below w1.heap.size w1 w2) : Below w.heap.size w w2 := h1.trans (h2.mono h1.size)
theorem below_drewN {B : Nat} {a w : World} (h : Below B a w) (n : Nat) : Below B a (w.drewN n) := ⟨h.os, h.tape, h.output, h.size, h.block⟩
theorem below_grownBy {w w' : World} (hb : Below w.heap.size w w') (row : Option Nat) : w.grownBy w' row := ⟨hb.os, hb.tape, hb.output, hb.size, fun k hk _ => hb.block k hk⟩
theorem ownsRow_below {w w' : World} {base : Nat} {e : TypeId} {size : Nat} {v : Value} {n : Nat} {xs : List Value} (h : w.ownsRow base e size v n xs) (hb : Below w.heap.size w w') : w'.ownsRow base e size v n xs :=
  h.kept (below_grownBy hb none) (by cases v.ownBlock <;> simp)
theorem below_app {w wr w2 : World} {base : Nat} {o : Obj} {e : TypeId} {size : Nat} {v : Value} {n : Nat} {xs : List Value} (hb : Below w.heap.size w wr) (hown : wr.ownsRow base e size v n xs) (hB : w.heap.size ≤ base) (hg : (wr.alloc o).grownBy w2 v.ownBlock) :
    Below w.heap.size w w2 := (hb.alloc hb.size o).grown hg (by simp; have := hb.size; omega) (fun j hj => Nat.le_trans hB (hown.lt j hj).1)
theorem isEmpty_no {s : ByteArray} (h : 0 < s.size) : s.toList.isEmpty = false := by
  rw [ByteArray.toList_eq, List.isEmpty_eq_false_iff]
  intro e
  have : s.data.toList.length = 0 := by rw [e]; rfl
  have : s.size = s.data.toList.length := rfl
  omega
theorem isEmpty_yes {s : ByteArray} (h : s.size = 0) : s.toList.isEmpty = true := by
  rw [ByteArray.toList_eq, List.isEmpty_iff]
  exact List.eq_nil_of_length_eq_zero h
def strV (s : ByteArray) : Value := .string s
theorem ownsRow_base {w : World} {base base' : Nat} {e : TypeId} {size : Nat} {v : Value} {n : Nat} {xs : List Value} (h : w.ownsRow base e size v n xs) (hb : base' ≤ base) : w.ownsRow base' e size v n xs := by
  refine ⟨h.1, ?_⟩
  rcases h.2 with h0 | ⟨g, cap, cur, hv, hg, r⟩
  · exact .inl h0
  · exact .inr ⟨g, cap, cur, hv, by omega, r⟩
theorem ownsRow_form {w : World} {base : Nat} {e : TypeId} {size : Nat} {v : Value} {n : Nat} {xs : List Value} (h : w.ownsRow base e size v n xs) (hn : 0 < n) :
    ∃ g cap, v = .slice (some ⟨g, 0, none⟩) n cap ∧ base ≤ g ∧ g < w.heap.size := by
  rcases h.2 with ⟨_, h0⟩ | ⟨g, cap, cur, rfl, hg, hh, _⟩
  · omega
  · exact ⟨g, cap, rfl, hg, lt_of_block hh⟩

/-- An error that is a fault of a kind at a place, and what it came from. -/
def FaultIs (w : World) (v : Value) (kind at_ : Int) (inner : Value) : Prop :=
  ∃ b, v = .iface 98 (.pointer (some ⟨b, 0, none⟩)) ∧ w.heap[b]? = some (.cells #[.int .i64 kind, .int .i64 at_, inner] 102 (0, 0))
/-- An error that is a fault of a kind at a place, of nothing within. -/
def IsFault (w : World) (v : Value) (kind at_ : Int) : Prop := FaultIs w v kind at_ .nilIface
/-- An error of a kind at a place; 0: none. -/
def IsErr (w : World) (v : Value) (kind at_ : Nat) : Prop := (kind = 0 ∧ v = .nilIface) ∨ (kind ≠ 0 ∧ ∃ inner, FaultIs w v kind at_ inner)
theorem FaultIs.below {w w' : World} {v : Value} {k i : Int} {n : Value} (h : FaultIs w v k i n) (hb : Below w.heap.size w w') : FaultIs w' v k i n := by
  obtain ⟨b, rfl, hh⟩ := h
  exact ⟨b, rfl, (hb.block b (lt_of_block hh)).trans hh⟩
theorem IsErr.below {w w' : World} {v : Value} {k i : Nat} (h : IsErr w v k i) (hb : Below w.heap.size w w') : IsErr w' v k i := by
  rcases h with h | ⟨h, n, h2⟩
  · exact .inl h
  · exact .inr ⟨h, n, h2.below hb⟩
theorem FaultIs.ne_nil {w : World} {v : Value} {k i : Int} {n : Value} (h : FaultIs w v k i n) : ∃ p, v = .iface 98 p := by
  obtain ⟨b, rfl, _⟩ := h
  exact ⟨_, rfl⟩
theorem IsFault.ne_nil {w : World} {v : Value} {k i : Int} (h : IsFault w v k i) : ∃ p, v = .iface 98 p := FaultIs.ne_nil h

theorem ret_str {a b : ByteArray} (h : a = b) : Ending.returned (.string a) = .returned (.string b) := by rw [h]
theorem ret_bool {a b : Bool} (h : a = b) : Ending.returned (.bool a) = .returned (.bool b) := by rw [h]
theorem ret_u64 {a b : Int} (h : a = b) : Ending.returned (.int .u64 a) = .returned (.int .u64 b) := by rw [h]
theorem ret_i64 {a b : Int} (h : a = b) : Ending.returned (.int .i64 a) = .returned (.int .i64 b) := by rw [h]

section
variable {P : Program}
theorem run_back (w : World) (src dst e : TypeId) (g cap : Nat) (l : List UInt8) (hs : P.underlying src = some (.slice e)) (he : P.underlying e = some (.int .u8)) (hd : P.underlying dst = some .string)
    (h : BytesAt w g l) : (convert src dst (.slice (some ⟨g, 0, none⟩) l.length cap)).run P w = .ok (.string ⟨l.toArray⟩) w := by
  refine run_convert_bytes_back w src dst e ⟨g, 0, none⟩ cap l hs he hd (fun j hj => ?_)
  have := h.cell hj
  simp only [Addr.add_lit, Nat.zero_add, this]
  simp [hj]

theorem run_back_at (w : World) (src dst e : TypeId) (g o n cap : Nat) (pre l : List UInt8) (ho : pre.length = o) (hn : l.length = n) (hs : P.underlying src = some (.slice e)) (he : P.underlying e = some (.int .u8)) (hd : P.underlying dst = some .string)
    (h : BytesAt w g (pre ++ l)) : (convert src dst (.slice (some ⟨g, o, none⟩) n cap)).run P w = .ok (.string ⟨l.toArray⟩) w := by
  subst hn
  refine run_convert_bytes_back w src dst e ⟨g, o, none⟩ cap l hs he hd (fun j hj => ?_)
  have := h.cell (k := o + j) (by simp; omega)
  simp only [Addr.add_lit, this]
  subst ho
  simp [hj]

theorem wpList_bytes {ops : Array Oper} {rest : List Oper} {o : Oper} {a : Act} {w : World} {Q : Exit → Act → World → Prop} (hgd : o.guard = none) (src dst e : TypeId) (x : Operand)
    (ho : o.op = .convert src dst x) (s : ByteArray) (hx : a.eval x = .string s) (hs : P.underlying src = some .string) (hd : P.underlying dst = some (.slice e)) (he : P.underlying e = some (.int .u8))
    (h : ∀ (cap : Nat) (w' : World), s.size ≤ cap → BytesAt w' w.heap.size s.data.toList → Below w.heap.size w w' → w'.heap.size = w.heap.size + 1 →
      wpList P ops Q rest (a.put o.dst (.slice (some ⟨w.heap.size, 0, none⟩) s.size cap)) w') : wpList P ops Q (o :: rest) a w := by
  refine wpList_plain hgd fun K hK => ?_
  unfold Oper.wp execOp
  have hr := run_bytes_of_string (P := P) w src dst e s hs hd he
  simp only [ho, hx, Sem.run_bind, hr, Result.andThen_ok, Sem.run_pure]
  refine hK _ _ (h _ _ (grownCap_ge w s.size 0 e) ?_ (((Below.refl _ _).drew).alloc (Nat.le_refl _) _) (by simp))
  refine ⟨e, List.replicate (grownCap w s.size 0 e - s.size) (Value.int .u8 0), _, s.data.toList.length + (List.replicate (grownCap w s.size 0 e - s.size) (Value.int .u8 0)).length + 1, .inr (Nat.le_refl _), ?_⟩
  refine (heap_alloc_new w.drew _).trans ?_
  have hb : bytesRow s (grownCap w s.size 0 e) = (List.map byteV s.data.toList ++ List.replicate (grownCap w s.size 0 e - s.size) (Value.int .u8 0)).toArray := by
    unfold bytesRow
    apply Array.ext'
    simp [byteV]
  have hsz : (bytesRow s (grownCap w s.size 0 e)).size = s.data.toList.length + (List.replicate (grownCap w s.size 0 e - s.size) (Value.int .u8 0)).length := by
    rw [hb]; simp
  rw [hsz, hb]
end
end Go.Proofs.YtkgifenidmbdkaaGreatDoor

/- Plain: the language of a pattern's parts, and the states that are reached, step by step. -/
namespace Go.Proofs.YtkgifenidmbdkaaGreatDoor

/-- A part of a pattern. -/
structure GPart where
  char : Nat
  wild : Bool
  many : Bool
def smallC (c : Nat) : Nat := if 65 ≤ c ∧ c ≤ 90 then c + 32 else c
def standsB (p : GPart) (c : Nat) (f : Bool) : Bool := p.wild || (decide (p.char = c) || (f && decide (smallC p.char = smallC c)))
def oneOk (f : Bool) (p : GPart) (u : List Nat) : Prop := if p.many = true then ∀ c ∈ u, standsB p c f = true else ∃ c, u = [c] ∧ standsB p c f = true
/-- The language of parts. -/
def Lang (f : Bool) : List GPart → List Nat → Prop
  | [], u => u = []
  | p :: ps, u => ∃ a b, u = a ++ b ∧ oneOk f p a ∧ Lang f ps b

theorem oneOk_many {f : Bool} {p : GPart} {u : List Nat} (h : p.many = true) : oneOk f p u ↔ ∀ c ∈ u, standsB p c f = true := by unfold oneOk; rw [if_pos h]
theorem oneOk_one {f : Bool} {p : GPart} {u : List Nat} (h : p.many = false) : oneOk f p u ↔ ∃ c, u = [c] ∧ standsB p c f = true := by unfold oneOk; rw [if_neg (by simp [h])]

theorem lang_app (f : Bool) (ps qs : List GPart) (u : List Nat) : Lang f (ps ++ qs) u ↔ ∃ a b, u = a ++ b ∧ Lang f ps a ∧ Lang f qs b := by
  induction ps generalizing u with
  | nil =>
    constructor
    · intro h; exact ⟨[], u, rfl, rfl, h⟩
    · rintro ⟨a, b, rfl, ha, hb⟩
      obtain rfl : a = [] := ha
      exact hb
  | cons p ps ih =>
    constructor
    · rintro ⟨a, b, rfl, h1, h2⟩
      obtain ⟨c, d, rfl, h3, h4⟩ := (ih b).1 h2
      exact ⟨a ++ c, d, by rw [List.append_assoc], ⟨a, c, rfl, h1, h3⟩, h4⟩
    · rintro ⟨a, b, rfl, ⟨c, d, rfl, h1, h3⟩, h4⟩
      exact ⟨c, d ++ b, by rw [List.append_assoc], h1, (ih _).2 ⟨d, b, rfl, h3, h4⟩⟩
theorem lang_one (f : Bool) (p : GPart) (u : List Nat) : Lang f [p] u ↔ oneOk f p u := by
  constructor
  · rintro ⟨a, b, rfl, h, hb⟩
    obtain rfl : b = [] := hb
    simpa using h
  · intro h; exact ⟨u, [], by simp, h, rfl⟩

/-- State i is reached by characters: the parts ahead of it stand for their beginning, and part i, if it may stand for many, for the rest. -/
def Reached (f : Bool) (ps : List GPart) (u : List Nat) (i : Nat) : Prop :=
  ∃ a b, u = a ++ b ∧ Lang f (ps.take i) a ∧ (b = [] ∨ ∃ p, ps[i]? = some p ∧ p.many = true ∧ ∀ c ∈ b, standsB p c f = true)

theorem take_one {ps : List GPart} {i : Nat} {p : GPart} (h : ps[i]? = some p) : ps.take (i + 1) = ps.take i ++ [p] := by
  obtain ⟨hi, rfl⟩ := List.getElem?_eq_some_iff.1 h
  exact List.take_succ_eq_append_getElem hi

theorem reached_all (f : Bool) (ps : List GPart) (u : List Nat) : Reached f ps u ps.length ↔ Lang f ps u := by
  constructor
  · rintro ⟨a, b, rfl, h, hb⟩
    rw [List.take_length] at h
    rcases hb with rfl | ⟨p, hp, _⟩
    · simpa using h
    · simp at hp
  · intro h; exact ⟨u, [], by simp, by rw [List.take_length]; exact h, .inl rfl⟩

theorem reached_nil_zero (f : Bool) (ps : List GPart) : Reached f ps [] 0 := ⟨[], [], rfl, by simp [Lang], .inl rfl⟩
theorem reached_nil_succ {f : Bool} {ps : List GPart} {i : Nat} {p : GPart} (h : ps[i]? = some p) : Reached f ps [] (i + 1) ↔ (Reached f ps [] i ∧ p.many = true) := by
  constructor
  · rintro ⟨a, b, hab, h1, _⟩
    obtain ⟨rfl, rfl⟩ : a = [] ∧ b = [] := by simpa [eq_comm] using hab
    rw [take_one h, lang_app] at h1
    obtain ⟨c, d, hcd, h2, h3⟩ := h1
    obtain ⟨rfl, rfl⟩ : c = [] ∧ d = [] := by simpa [eq_comm] using hcd
    rw [lang_one] at h3
    cases hm : p.many with
    | true => exact ⟨⟨[], [], rfl, h2, .inl rfl⟩, rfl⟩
    | false =>
      obtain ⟨c, hc, _⟩ := (oneOk_one hm).1 h3
      cases hc
  · rintro ⟨⟨a, b, hab, h1, _⟩, hm⟩
    obtain ⟨rfl, rfl⟩ : a = [] ∧ b = [] := by simpa [eq_comm] using hab
    refine ⟨[], [], rfl, ?_, .inl rfl⟩
    rw [take_one h, lang_app]
    exact ⟨[], [], rfl, h1, (lang_one _ _ _).2 ((oneOk_many hm).2 fun c hc => by cases hc)⟩

/-- What a step reaches by itself. -/
def Stepped (f : Bool) (ps : List GPart) (u : List Nat) (c : Nat) (i : Nat) : Prop :=
  (∃ p, ps[i]? = some p ∧ Reached f ps u i ∧ standsB p c f = true ∧ p.many = true) ∨ (∃ j p, i = j + 1 ∧ ps[j]? = some p ∧ Reached f ps u j ∧ standsB p c f = true ∧ p.many = false)

theorem reached_snoc_of {f : Bool} {ps : List GPart} {u : List Nat} {c i : Nat} (h : Stepped f ps u c i) : Reached f ps (u ++ [c]) i := by
  rcases h with ⟨p, hp, ⟨a, b, rfl, h1, hb⟩, hs, hm⟩ | ⟨j, p, rfl, hp, ⟨a, b, rfl, h1, hb⟩, hs, hm⟩
  · refine ⟨a, b ++ [c], by rw [List.append_assoc], h1, .inr ⟨p, hp, hm, fun x hx => ?_⟩⟩
    rcases List.mem_append.1 hx with hx | hx
    · rcases hb with rfl | ⟨q, hq, _, h2⟩
      · cases hx
      · rw [hp] at hq; cases hq
        exact h2 x hx
    · simp at hx; subst hx; exact hs
  · obtain rfl : b = [] := by
      rcases hb with h | ⟨q, hq, h2, _⟩
      · exact h
      · rw [hp] at hq; cases hq
        rw [hm] at h2; cases h2
    refine ⟨a ++ [c], [], by simp, ?_, .inl rfl⟩
    rw [take_one hp, lang_app]
    exact ⟨a, [c], rfl, h1, (lang_one _ _ _).2 ((oneOk_one hm).2 ⟨c, rfl, hs⟩)⟩
theorem reached_skip {f : Bool} {ps : List GPart} {u : List Nat} {i : Nat} {p : GPart} (hp : ps[i]? = some p) (hm : p.many = true) (h : Reached f ps u i) : Reached f ps u (i + 1) := by
  obtain ⟨a, b, rfl, h1, hb⟩ := h
  refine ⟨a ++ b, [], by simp, ?_, .inl rfl⟩
  rw [take_one hp, lang_app]
  refine ⟨a, b, rfl, h1, (lang_one _ _ _).2 ((oneOk_many hm).2 fun x hx => ?_)⟩
  rcases hb with rfl | ⟨q, hq, _, h2⟩
  · cases hx
  · rw [hp] at hq; cases hq
    exact h2 x hx
theorem snoc_split {u a b : List Nat} {c : Nat} (h : u ++ [c] = a ++ b) (hb : b ≠ []) : ∃ b0, b = b0 ++ [c] ∧ u = a ++ b0 := by
  obtain ⟨b0, x, rfl⟩ : ∃ b0 x, b = b0 ++ [x] := ⟨b.dropLast, b.getLast hb, (List.dropLast_concat_getLast hb).symm⟩
  rw [← List.append_assoc] at h
  obtain ⟨h1, h2⟩ := List.append_inj' h rfl
  cases h2
  exact ⟨b0, rfl, h1⟩
theorem reached_snoc {f : Bool} {ps : List GPart} {u : List Nat} {c i : Nat} (hi : i ≤ ps.length) (h : Reached f ps (u ++ [c]) i) :
    Stepped f ps u c i ∨ ∃ j p, i = j + 1 ∧ ps[j]? = some p ∧ p.many = true ∧ Reached f ps (u ++ [c]) j := by
  obtain ⟨a, b, hab, h1, hb⟩ := h
  by_cases hbn : b = []
  · subst hbn
    rw [List.append_nil] at hab
    subst hab
    cases i with
    | zero =>
      rw [List.take_zero] at h1
      exact absurd h1 (by simp [Lang])
    | succ j =>
      have hp : ps[j]? = some (ps[j]'(by omega)) := List.getElem?_eq_getElem (by omega)
      rw [take_one hp, lang_app] at h1
      obtain ⟨a', b', hab, h2, h3⟩ := h1
      rw [lang_one] at h3
      cases hm : (ps[j]'(by omega)).many with
      | true => exact .inr ⟨j, _, rfl, hp, hm, a', b', hab, h2, .inr ⟨_, hp, hm, (oneOk_many hm).1 h3⟩⟩
      | false =>
        obtain ⟨x, rfl, hs⟩ := (oneOk_one hm).1 h3
        obtain ⟨rfl, h4⟩ := List.append_inj' hab rfl
        cases h4
        exact .inl (.inr ⟨j, _, rfl, hp, ⟨u, [], by simp, h2, .inl rfl⟩, hs, hm⟩)
  · rcases hb with hb | ⟨p, hp, hm, hs⟩
    · exact absurd hb hbn
    · obtain ⟨b0, rfl, rfl⟩ := snoc_split hab hbn
      exact .inl (.inl ⟨p, hp, ⟨a, b0, rfl, h1, .inr ⟨p, hp, hm, fun x hx => hs x (by simp [hx])⟩⟩, hs c (by simp), hm⟩)
theorem reached_snoc_zero (f : Bool) (ps : List GPart) (u : List Nat) (c : Nat) : Reached f ps (u ++ [c]) 0 ↔ Stepped f ps u c 0 := by
  constructor
  · intro h
    rcases reached_snoc (Nat.zero_le _) h with h | ⟨j, p, e, _⟩
    · exact h
    · cases e
  · exact reached_snoc_of
theorem reached_snoc_succ {f : Bool} {ps : List GPart} {u : List Nat} {c i : Nat} {p : GPart} (hp : ps[i]? = some p) : Reached f ps (u ++ [c]) (i + 1) ↔ (Stepped f ps u c (i + 1) ∨ (Reached f ps (u ++ [c]) i ∧ p.many = true)) := by
  have hi : i < ps.length := (List.getElem?_eq_some_iff.1 hp).1
  constructor
  · intro h
    rcases reached_snoc (by omega) h with h | ⟨j, q, e, hq, hm, h⟩
    · exact .inl h
    · obtain rfl : i = j := by omega
      rw [hp] at hq; cases hq
      exact .inr ⟨h, hm⟩
  · rintro (h | ⟨h, hm⟩)
    · exact reached_snoc_of h
    · exact reached_skip hp hm h
end Go.Proofs.YtkgifenidmbdkaaGreatDoor

/- Plain: whether characters are in the language of parts, as a function; the parts of a pattern. -/
namespace Go.Proofs.YtkgifenidmbdkaaGreatDoor

def starB (g : List Nat → Bool) (s : Nat → Bool) : List Nat → Bool
  | [] => g []
  | c :: v => g (c :: v) || (s c && starB g s v)
def oneB (g : List Nat → Bool) (s : Nat → Bool) : List Nat → Bool
  | [] => false
  | c :: v => s c && g v
/-- Are characters in the language of parts? -/
def langB (f : Bool) : List GPart → List Nat → Bool
  | [] => fun u => u.isEmpty
  | p :: ps => if p.many = true then starB (langB f ps) (standsB p · f) else oneB (langB f ps) (standsB p · f)

theorem starB_iff (g : List Nat → Bool) (s : Nat → Bool) (u : List Nat) : starB g s u = true ↔ ∃ a b, u = a ++ b ∧ (∀ c ∈ a, s c = true) ∧ g b = true := by
  induction u with
  | nil =>
    unfold starB
    constructor
    · intro h; exact ⟨[], [], rfl, (fun c hc => by cases hc), h⟩
    · rintro ⟨a, b, hab, _, hb⟩
      obtain ⟨rfl, rfl⟩ : a = [] ∧ b = [] := by simpa [eq_comm] using hab
      exact hb
  | cons x u ih =>
    unfold starB
    rw [Bool.or_eq_true, Bool.and_eq_true, ih]
    constructor
    · rintro (h | ⟨h1, a, b, rfl, h2, h3⟩)
      · exact ⟨[], x :: u, rfl, (fun c hc => by cases hc), h⟩
      · refine ⟨x :: a, b, rfl, fun c hc => ?_, h3⟩
        rcases List.mem_cons.1 hc with rfl | hc
        · exact h1
        · exact h2 c hc
    · rintro ⟨a, b, hab, h2, h3⟩
      cases a with
      | nil => simp at hab; subst hab; exact .inl h3
      | cons y a =>
        simp at hab
        obtain ⟨rfl, rfl⟩ := hab
        exact .inr ⟨h2 x (by simp), a, b, rfl, fun c hc => h2 c (by simp [hc]), h3⟩
theorem langB_iff (f : Bool) (ps : List GPart) (u : List Nat) : langB f ps u = true ↔ Lang f ps u := by
  induction ps generalizing u with
  | nil => simp [langB, Lang]
  | cons p ps ih =>
    unfold langB
    cases hm : p.many with
    | true =>
      rw [if_pos rfl, starB_iff]
      constructor
      · rintro ⟨a, b, rfl, h1, h2⟩
        exact ⟨a, b, rfl, (oneOk_many hm).2 h1, (ih b).1 h2⟩
      · rintro ⟨a, b, rfl, h1, h2⟩
        exact ⟨a, b, rfl, (oneOk_many hm).1 h1, (ih b).2 h2⟩
    | false =>
      rw [if_neg (by simp)]
      cases u with
      | nil =>
        simp only [oneB, Bool.false_eq_true, false_iff]
        rintro ⟨a, b, hab, h1, _⟩
        obtain ⟨c, rfl, _⟩ := (oneOk_one hm).1 h1
        simp at hab
      | cons x u =>
        simp only [oneB, Bool.and_eq_true, ih]
        constructor
        · rintro ⟨h1, h2⟩
          exact ⟨[x], u, rfl, (oneOk_one hm).2 ⟨x, rfl, h1⟩, h2⟩
        · rintro ⟨a, b, hab, h1, h2⟩
          obtain ⟨c, rfl, hs⟩ := (oneOk_one hm).1 h1
          simp at hab
          obtain ⟨rfl, rfl⟩ := hab
          exact ⟨hs, h2⟩

/-- The part that a character of a pattern stands for. -/
def partOf (c : Nat) : GPart := if c = 42 then ⟨0, true, true⟩ else if c = 63 then ⟨0, true, false⟩ else ⟨c, false, false⟩
theorem partOf_star : partOf 42 = ⟨0, true, true⟩ := rfl
theorem partOf_one : partOf 63 = ⟨0, true, false⟩ := rfl
theorem partOf_char {c : Nat} (h1 : c ≠ 42) (h2 : c ≠ 63) : partOf c = ⟨c, false, false⟩ := by unfold partOf; rw [if_neg h1, if_neg h2]
theorem stands_wild (c : Nat) (m f : Bool) (x : Nat) : standsB ⟨x, true, m⟩ c f = true := rfl

/-- One row of the reference's table. -/
theorem langB_many (f : Bool) (ps : List GPart) (p : GPart) (hm : p.many = true) : langB f (p :: ps) = starB (langB f ps) (standsB p · f) := by
  rw [langB, if_pos hm]
theorem langB_single (f : Bool) (ps : List GPart) (p : GPart) (hm : p.many = false) : langB f (p :: ps) = oneB (langB f ps) (standsB p · f) := by
  rw [langB, if_neg (by simp [hm])]
theorem langB_star_end (f : Bool) (ps : List GPart) (p : GPart) (hm : p.many = true) : langB f (p :: ps) [] = langB f ps [] := by
  rw [langB_many f ps p hm]; rfl
theorem langB_star_cons (f : Bool) (ps : List GPart) (p : GPart) (hm : p.many = true) (c : Nat) (u : List Nat) : langB f (p :: ps) (c :: u) = (langB f ps (c :: u) || (standsB p c f && langB f (p :: ps) u)) := by
  rw [langB_many f ps p hm]; rfl
theorem langB_one_end (f : Bool) (ps : List GPart) (p : GPart) (hm : p.many = false) : langB f (p :: ps) [] = false := by
  rw [langB_single f ps p hm]; rfl
theorem langB_one_cons (f : Bool) (ps : List GPart) (p : GPart) (hm : p.many = false) (c : Nat) (u : List Nat) : langB f (p :: ps) (c :: u) = (standsB p c f && langB f ps u) := by
  rw [langB_single f ps p hm]; rfl
end Go.Proofs.YtkgifenidmbdkaaGreatDoor

/- Plain: the states that are reached, as the code's rows have them. -/
namespace Go.Proofs.YtkgifenidmbdkaaGreatDoor
open Classical

noncomputable def rB (f : Bool) (ps : List GPart) (u : List Nat) (i : Nat) : Bool := decide (Reached f ps u i)
theorem rB_iff {f : Bool} {ps : List GPart} {u : List Nat} {i : Nat} : rB f ps u i = true ↔ Reached f ps u i := by unfold rB; exact decide_eq_true_iff
def manyAt (ps : List GPart) (i : Nat) : Bool := match ps[i]? with
  | some p => p.many
  | none => false
theorem manyAt_of {ps : List GPart} {i : Nat} {p : GPart} (h : ps[i]? = some p) : manyAt ps i = p.many := by unfold manyAt; rw [h]
/-- The states behind those that may stand for nothing. -/
def skipF (ps : List GPart) (f0 : Nat → Bool) : Nat → Bool
  | 0 => f0 0
  | i + 1 => f0 (i + 1) || (skipF ps f0 i && manyAt ps i)
theorem skipF_succ (ps : List GPart) (f0 : Nat → Bool) (i : Nat) : skipF ps f0 (i + 1) = (f0 (i + 1) || (skipF ps f0 i && manyAt ps i)) := rfl
def startF (i : Nat) : Bool := decide (i = 0)

theorem skip_start (f : Bool) (ps : List GPart) : ∀ i, i ≤ ps.length → skipF ps startF i = rB f ps [] i := by
  intro i
  induction i with
  | zero => intro _; exact (rB_iff.2 (reached_nil_zero f ps)).symm
  | succ i ih =>
    intro hi
    have hp : ps[i]? = some (ps[i]'(by omega)) := List.getElem?_eq_getElem (by omega)
    rw [skipF_succ, ih (by omega), manyAt_of hp, Bool.eq_iff_iff, rB_iff, reached_nil_succ hp]
    simp [startF, rB_iff]

def Con (f : Bool) (ps : List GPart) (u : List Nat) (c j m : Nat) : Prop := ∃ p, ps[j]? = some p ∧ Reached f ps u j ∧ standsB p c f = true ∧ ((p.many = true ∧ m = j) ∨ (p.many = false ∧ m = j + 1))
/-- What a step has reached, of the first so many parts. -/
noncomputable def stepTo (f : Bool) (ps : List GPart) (u : List Nat) (c i m : Nat) : Bool := decide (∃ j, j < i ∧ Con f ps u c j m)
theorem stepTo_iff {f : Bool} {ps : List GPart} {u : List Nat} {c i m : Nat} : stepTo f ps u c i m = true ↔ ∃ j, j < i ∧ Con f ps u c j m := by unfold stepTo; exact decide_eq_true_iff
theorem stepTo_zero (f : Bool) (ps : List GPart) (u : List Nat) (c m : Nat) : stepTo f ps u c 0 m = false := by
  rw [Bool.eq_false_iff]; intro h
  obtain ⟨j, hj, _⟩ := stepTo_iff.1 h
  omega
theorem stepTo_succ {f : Bool} {ps : List GPart} {u : List Nat} {c i m : Nat} : stepTo f ps u c (i + 1) m = true ↔ (stepTo f ps u c i m = true ∨ Con f ps u c i m) := by
  rw [stepTo_iff, stepTo_iff]
  constructor
  · rintro ⟨j, hj, h⟩
    by_cases e : j = i
    · exact .inr (e ▸ h)
    · exact .inl ⟨j, by omega, h⟩
  · rintro (⟨j, hj, h⟩ | h)
    · exact ⟨j, by omega, h⟩
    · exact ⟨i, by omega, h⟩
theorem con_of {f : Bool} {ps : List GPart} {u : List Nat} {c i m : Nat} {p : GPart} (hp : ps[i]? = some p) : Con f ps u c i m ↔ (rB f ps u i = true ∧ standsB p c f = true ∧ ((p.many = true ∧ m = i) ∨ (p.many = false ∧ m = i + 1))) := by
  unfold Con
  rw [rB_iff]
  constructor
  · rintro ⟨q, hq, h1, h2, h3⟩
    rw [hp] at hq; cases hq
    exact ⟨h1, h2, h3⟩
  · rintro ⟨h1, h2, h3⟩
    exact ⟨p, hp, h1, h2, h3⟩
theorem step_none {f : Bool} {ps : List GPart} {u : List Nat} {c i : Nat} {p : GPart} (hp : ps[i]? = some p) (h : rB f ps u i = false ∨ standsB p c f = false) (m : Nat) : stepTo f ps u c (i + 1) m = stepTo f ps u c i m := by
  rw [Bool.eq_iff_iff, stepTo_succ, con_of hp]
  rcases h with h | h <;> simp [h]
theorem step_many {f : Bool} {ps : List GPart} {u : List Nat} {c i : Nat} {p : GPart} (hp : ps[i]? = some p) (h1 : rB f ps u i = true) (h2 : standsB p c f = true) (h3 : p.many = true) (m : Nat) : stepTo f ps u c (i + 1) m = if m = i then true else stepTo f ps u c i m := by
  rw [Bool.eq_iff_iff, stepTo_succ, con_of hp]
  by_cases hm : m = i <;> simp [h1, h2, h3, hm]
theorem step_one {f : Bool} {ps : List GPart} {u : List Nat} {c i : Nat} {p : GPart} (hp : ps[i]? = some p) (h1 : rB f ps u i = true) (h2 : standsB p c f = true) (h3 : p.many = false) (m : Nat) : stepTo f ps u c (i + 1) m = if m = i + 1 then true else stepTo f ps u c i m := by
  rw [Bool.eq_iff_iff, stepTo_succ, con_of hp]
  by_cases hm : m = i + 1 <;> simp [h1, h2, h3, hm]
theorem stepTo_all {f : Bool} {ps : List GPart} {u : List Nat} {c m : Nat} : stepTo f ps u c ps.length m = true ↔ Stepped f ps u c m := by
  rw [stepTo_iff]
  constructor
  · rintro ⟨j, hj, p, hp, h1, h2, (⟨h3, rfl⟩ | ⟨h3, rfl⟩)⟩
    · exact .inl ⟨p, hp, h1, h2, h3⟩
    · exact .inr ⟨j, p, rfl, hp, h1, h2, h3⟩
  · rintro (⟨p, hp, h1, h2, h3⟩ | ⟨j, p, rfl, hp, h1, h2, h3⟩)
    · exact ⟨m, (List.getElem?_eq_some_iff.1 hp).1, p, hp, h1, h2, .inl ⟨h3, rfl⟩⟩
    · exact ⟨j, (List.getElem?_eq_some_iff.1 hp).1, p, hp, h1, h2, .inr ⟨h3, rfl⟩⟩
theorem skip_step (f : Bool) (ps : List GPart) (u : List Nat) (c : Nat) : ∀ i, i ≤ ps.length → skipF ps (stepTo f ps u c ps.length) i = rB f ps (u ++ [c]) i := by
  intro i
  induction i with
  | zero => intro _; rw [Bool.eq_iff_iff, rB_iff, reached_snoc_zero, ← stepTo_all]; rfl
  | succ i ih =>
    intro hi
    have hp : ps[i]? = some (ps[i]'(by omega)) := List.getElem?_eq_getElem (by omega)
    rw [skipF_succ, ih (by omega), manyAt_of hp, Bool.eq_iff_iff, rB_iff, reached_snoc_succ hp, ← stepTo_all, ← rB_iff, Bool.or_eq_true, Bool.and_eq_true]
theorem rB_all (f : Bool) (ps : List GPart) (u : List Nat) : rB f ps u ps.length = langB f ps u := by
  rw [Bool.eq_iff_iff, rB_iff, reached_all, langB_iff]
end Go.Proofs.YtkgifenidmbdkaaGreatDoor
