/- Small laws of my own for walks: a conversion of a string to bytes, in the form of a continuation; a row of bytes in memory. -/
import Derived.Test.YtakcfgmibijdnaaRows
import Derived.WalkKit
import Derived.WalkSpells
import Derived.WalkLawsBesides
import Derived.Lib.Hide
import Derived.Lib.Strings
import Derived.Deep.Draws
import Derived.BigQuiet
import Derived.Deep.QuietTactic

namespace Go.Proofs.Ytakcfgmibijdnaa
open Go.RowKit

def byteV (b : UInt8) : Value := .int .u8 (b.toNat : Int)

/-- The bytes l stand at the head of block g, and none of the block's cells is frozen. -/
def BytesAt (w : World) (g : Nat) (l : List UInt8) : Prop :=
  ∃ (e : TypeId) (rest : List Value) (lo hi : Nat), (hi ≤ lo ∨ l.length + rest.length ≤ lo) ∧ w.heap[g]? = some (.cells (l.map byteV ++ rest).toArray e (lo, hi))

section
variable {w w' : World} {g B : Nat} {l : List UInt8}
theorem BytesAt.lt (h : BytesAt w g l) : g < w.heap.size := by
  obtain ⟨e, rest, lo, hi, _, hb⟩ := h
  exact lt_of_block hb
theorem BytesAt.below (h : BytesAt w g l) (hb : Below B w w') (hg : g < B) : BytesAt w' g l := by
  obtain ⟨e, rest, lo, hi, hlo, hh⟩ := h
  exact ⟨e, rest, lo, hi, hlo, (hb.block g hg).trans hh⟩
theorem BytesAt.grown {row : Option Nat} (h : BytesAt w g l) (hb : w.grownBy w' row) (hne : some g ≠ row) : BytesAt w' g l := by
  have hl := h.lt
  obtain ⟨e, rest, lo, hi, hlo, hh⟩ := h
  exact ⟨e, rest, lo, hi, hlo, (hb.block g hl hne).trans hh⟩
theorem BytesAt.alloc (h : BytesAt w g l) (o : Obj) : BytesAt (w.alloc o) g l := by
  have hl := h.lt
  obtain ⟨e, rest, lo, hi, hlo, hh⟩ := h
  exact ⟨e, rest, lo, hi, hlo, (Below.heap_alloc w o g hl).trans hh⟩
theorem BytesAt.cell (h : BytesAt w g l) {k : Nat} (hk : k < l.length) : w.cell? ⟨g, k, none⟩ = some (.int .u8 ((l.getD k 0).toNat : Int)) := by
  obtain ⟨e, rest, lo, hi, hlo, hh⟩ := h
  rw [cell_of_row w g k _ e _ hh]
  simp [hk, List.getElem?_append, byteV]
theorem BytesAt.frozen (h : BytesAt w g l) {k : Nat} (hk : k < l.length) : w.frozen? ⟨g, k, none⟩ = false := by
  obtain ⟨e, rest, lo, hi, hlo, hh⟩ := h
  simp [World.frozen?, hh]
  omega
theorem BytesAt.store (h : BytesAt w g l) {k : Nat} (hk : k < l.length) (b : UInt8) : BytesAt (w.setCell ⟨g, k, none⟩ (.int .u8 (b.toNat : Int))) g (l.set k b) := by
  obtain ⟨e, rest, lo, hi, hlo, hh⟩ := h
  refine ⟨e, rest, lo, hi, by simpa using hlo, ?_⟩
  simp only [World.setCell, Array.getElem?_modify, hh]
  simp [List.setIfInBounds_toArray, hk, byteV, List.map_set]
theorem BytesAt.stored (h : BytesAt w g l) {a : Addr} (ha : a.block ≠ g) (u : Value) : BytesAt (w.setCell a u) g l := by
  obtain ⟨e, rest, lo, hi, hlo, hh⟩ := h
  exact ⟨e, rest, lo, hi, hlo, (Below.heap_setCell w a u g (fun h => ha h.symm)).trans hh⟩
end

/-- The byte of a string at a place; 0 behind its end. (A plain definition: the walk leaves it as it stands.) -/
def byteAt (s : ByteArray) (k : Nat) : UInt8 := s.data.toList.getD k 0
theorem BytesAt.byte {w : World} {g : Nat} {s : ByteArray} (h : BytesAt w g s.data.toList) {k : Nat} (hk : k < s.size) : w.cell? ⟨g, k, none⟩ = some (.int .u8 ((byteAt s k).toNat : Int)) :=
  h.cell (by simpa using hk)
theorem u8_ne {a b : UInt8} (h : a ≠ b) : ((a.toNat : Int) != (b.toNat : Int)) = true := by
  simp only [bne_iff_ne, ne_eq, Int.ofNat_inj, UInt8.toNat_inj]; exact h
theorem u8_eq {a b : UInt8} (h : a = b) : ((a.toNat : Int) != (b.toNat : Int)) = false := by subst h; simp
theorem u8_eq' {a b : UInt8} (h : a = b) : ((a.toNat : Int) == (b.toNat : Int)) = true := by subst h; simp
theorem u8_ne' {a b : UInt8} (h : a ≠ b) : ((a.toNat : Int) == (b.toNat : Int)) = false := by
  simp only [beq_eq_false_iff_ne, ne_eq, Int.ofNat_inj, UInt8.toNat_inj]; exact h
theorem Bt {w w1 w2 : World} (h1 : Below w.heap.size w w1) (h2 : Below w1.heap.size w1 w2) : Below w.heap.size w w2 := h1.trans (h2.mono h1.size)
theorem below_drewN {B : Nat} {a w : World} (h : Below B a w) (n : Nat) : Below B a (w.drewN n) := ⟨h.os, h.tape, h.output, h.size, h.block⟩
theorem below_grownBy {w w' : World} (hb : Below w.heap.size w w') (row : Option Nat) : w.grownBy w' row := ⟨hb.os, hb.tape, hb.output, hb.size, fun k hk _ => hb.block k hk⟩
theorem ownsRow_below {w w' : World} {base : Nat} {e : TypeId} {size : Nat} {v : Value} {n : Nat} {xs : List Value} (h : w.ownsRow base e size v n xs) (hb : Below w.heap.size w w') : w'.ownsRow base e size v n xs :=
  h.kept (below_grownBy hb none) (by cases v.ownBlock <;> simp)
theorem below_app {w wr w2 : World} {base : Nat} {o : Obj} {e : TypeId} {size : Nat} {v : Value} {n : Nat} {xs : List Value} (hb : Below w.heap.size w wr) (hown : wr.ownsRow base e size v n xs) (hB : w.heap.size ≤ base) (hg : (wr.alloc o).grownBy w2 v.ownBlock) :
    Below w.heap.size w w2 := (hb.alloc hb.size o).grown hg (by simp; have := hb.size; omega) (fun j hj => Nat.le_trans hB (hown.lt j hj).1)
theorem isEmpty_no {s : ByteArray} (h : 0 < s.size) : s.toList.isEmpty = false := by
  rw [ByteArray.toList_eq, List.isEmpty_eq_false_iff]
  intro e
  have : s.data.toList.length = 0 := by rw [e]; rfl
  have : s.size = s.data.toList.length := rfl
  omega
theorem isEmpty_yes {s : ByteArray} (h : s.size = 0) : s.toList.isEmpty = true := by
  rw [ByteArray.toList_eq, List.isEmpty_iff]
  exact List.eq_nil_of_length_eq_zero h
def strV (s : ByteArray) : Value := .string s
theorem ownsRow_base {w : World} {base base' : Nat} {e : TypeId} {size : Nat} {v : Value} {n : Nat} {xs : List Value} (h : w.ownsRow base e size v n xs) (hb : base' ≤ base) : w.ownsRow base' e size v n xs := by
  refine ⟨h.1, ?_⟩
  rcases h.2 with h0 | ⟨g, cap, cur, hv, hg, r⟩
  · exact .inl h0
  · exact .inr ⟨g, cap, cur, hv, by omega, r⟩
theorem ownsRow_form {w : World} {base : Nat} {e : TypeId} {size : Nat} {v : Value} {n : Nat} {xs : List Value} (h : w.ownsRow base e size v n xs) (hn : 0 < n) :
    ∃ g cap, v = .slice (some ⟨g, 0, none⟩) n cap ∧ base ≤ g ∧ g < w.heap.size := by
  rcases h.2 with ⟨_, h0⟩ | ⟨g, cap, cur, rfl, hg, hh, _⟩
  · omega
  · exact ⟨g, cap, rfl, hg, lt_of_block hh⟩

/-- An error that is a fault of a kind at a place, and what it came from. -/
def FaultIs (w : World) (v : Value) (kind at_ : Int) (inner : Value) : Prop :=
  ∃ b, v = .iface 54 (.pointer (some ⟨b, 0, none⟩)) ∧ w.heap[b]? = some (.cells #[.int .i64 kind, .int .i64 at_, inner] 56 (0, 0))
/-- An error that is a fault of a kind at a place, of nothing within. -/
def IsFault (w : World) (v : Value) (kind at_ : Int) : Prop := FaultIs w v kind at_ .nilIface
/-- An error of a kind at a place; 0: none. -/
def IsErr (w : World) (v : Value) (kind at_ : Nat) : Prop := (kind = 0 ∧ v = .nilIface) ∨ (kind ≠ 0 ∧ ∃ inner, FaultIs w v kind at_ inner)
theorem FaultIs.below {w w' : World} {v : Value} {k i : Int} {n : Value} (h : FaultIs w v k i n) (hb : Below w.heap.size w w') : FaultIs w' v k i n := by
  obtain ⟨b, rfl, hh⟩ := h
  exact ⟨b, rfl, (hb.block b (lt_of_block hh)).trans hh⟩
theorem IsErr.below {w w' : World} {v : Value} {k i : Nat} (h : IsErr w v k i) (hb : Below w.heap.size w w') : IsErr w' v k i := by
  rcases h with h | ⟨h, n, h2⟩
  · exact .inl h
  · exact .inr ⟨h, n, h2.below hb⟩
theorem FaultIs.ne_nil {w : World} {v : Value} {k i : Int} {n : Value} (h : FaultIs w v k i n) : ∃ p, v = .iface 54 p := by
  obtain ⟨b, rfl, _⟩ := h
  exact ⟨_, rfl⟩
theorem IsFault.ne_nil {w : World} {v : Value} {k i : Int} (h : IsFault w v k i) : ∃ p, v = .iface 54 p := FaultIs.ne_nil h

theorem ret_str {a b : ByteArray} (h : a = b) : Ending.returned (.string a) = .returned (.string b) := by rw [h]
theorem ret_bool {a b : Bool} (h : a = b) : Ending.returned (.bool a) = .returned (.bool b) := by rw [h]
theorem ret_u64 {a b : Int} (h : a = b) : Ending.returned (.int .u64 a) = .returned (.int .u64 b) := by rw [h]
theorem ret_i64 {a b : Int} (h : a = b) : Ending.returned (.int .i64 a) = .returned (.int .i64 b) := by rw [h]

section
variable {P : Program}
theorem run_back (w : World) (src dst e : TypeId) (g cap : Nat) (l : List UInt8) (hs : P.underlying src = some (.slice e)) (he : P.underlying e = some (.int .u8)) (hd : P.underlying dst = some .string)
    (h : BytesAt w g l) : (convert src dst (.slice (some ⟨g, 0, none⟩) l.length cap)).run P w = .ok (.string ⟨l.toArray⟩) w := by
  refine run_convert_bytes_back w src dst e ⟨g, 0, none⟩ cap l hs he hd (fun j hj => ?_)
  have := h.cell hj
  simp only [Addr.add_lit, Nat.zero_add, this]
  simp [hj]

theorem run_back_at (w : World) (src dst e : TypeId) (g o n cap : Nat) (pre l : List UInt8) (ho : pre.length = o) (hn : l.length = n) (hs : P.underlying src = some (.slice e)) (he : P.underlying e = some (.int .u8)) (hd : P.underlying dst = some .string)
    (h : BytesAt w g (pre ++ l)) : (convert src dst (.slice (some ⟨g, o, none⟩) n cap)).run P w = .ok (.string ⟨l.toArray⟩) w := by
  subst hn
  refine run_convert_bytes_back w src dst e ⟨g, o, none⟩ cap l hs he hd (fun j hj => ?_)
  have := h.cell (k := o + j) (by simp; omega)
  simp only [Addr.add_lit, this]
  subst ho
  simp [hj]

theorem wpList_bytes {ops : Array Oper} {rest : List Oper} {o : Oper} {a : Act} {w : World} {Q : Exit → Act → World → Prop} (hgd : o.guard = none) (src dst e : TypeId) (x : Operand)
    (ho : o.op = .convert src dst x) (s : ByteArray) (hx : a.eval x = .string s) (hs : P.underlying src = some .string) (hd : P.underlying dst = some (.slice e)) (he : P.underlying e = some (.int .u8))
    (h : ∀ (cap : Nat) (w' : World), s.size ≤ cap → BytesAt w' w.heap.size s.data.toList → Below w.heap.size w w' → w'.heap.size = w.heap.size + 1 →
      wpList P ops Q rest (a.put o.dst (.slice (some ⟨w.heap.size, 0, none⟩) s.size cap)) w') : wpList P ops Q (o :: rest) a w := by
  refine wpList_plain hgd fun K hK => ?_
  unfold Oper.wp execOp
  have hr := run_bytes_of_string (P := P) w src dst e s hs hd he
  simp only [ho, hx, Sem.run_bind, hr, Result.andThen_ok, Sem.run_pure]
  refine hK _ _ (h _ _ (grownCap_ge w s.size 0 e) ?_ (((Below.refl _ _).drew).alloc (Nat.le_refl _) _) (by simp))
  refine ⟨e, List.replicate (grownCap w s.size 0 e - s.size) (Value.int .u8 0), _, s.data.toList.length + (List.replicate (grownCap w s.size 0 e - s.size) (Value.int .u8 0)).length + 1, .inr (Nat.le_refl _), ?_⟩
  refine (heap_alloc_new w.drew _).trans ?_
  have hb : bytesRow s (grownCap w s.size 0 e) = (List.map byteV s.data.toList ++ List.replicate (grownCap w s.size 0 e - s.size) (Value.int .u8 0)).toArray := by
    unfold bytesRow
    apply Array.ext'
    simp [byteV]
  have hsz : (bytesRow s (grownCap w s.size 0 e)).size = s.data.toList.length + (List.replicate (grownCap w s.size 0 e - s.size) (Value.int .u8 0)).length := by
    rw [hb]; simp
  rw [hsz, hb]
end
end Go.Proofs.Ytakcfgmibijdnaa

/- Characters as letters and digits, in plain words: the bias, a number's digits, the encoding. -/
namespace Go.Proofs.Ytakcfgmibijdnaa

def adaptL : Nat → Nat → Nat → Nat
  | 0, d, k => k + 36 * d / (d + 38)
  | f + 1, d, k => if 455 < d then adaptL f (d / 35) (k + 36) else k + 36 * d / (d + 38)
theorem adaptL_go {f d k : Nat} (h : 455 < d) : adaptL (f + 1) d k = adaptL f (d / 35) (k + 36) := by rw [adaptL, if_pos h]
theorem adaptL_end {f d k : Nat} (h : ¬ 455 < d) : adaptL f d k = k + 36 * d / (d + 38) := by
  cases f with
  | zero => rfl
  | succ f => rw [adaptL, if_neg h]
theorem adaptL_le : ∀ (f d k : Nat), adaptL f d k ≤ k + 36 * d + 36 := by
  have hb : ∀ d k, k + 36 * d / (d + 38) ≤ k + 36 * d + 36 := fun d k => by
    have : 36 * d / (d + 38) ≤ 36 * d := Nat.div_le_self _ _
    omega
  intro f
  induction f with
  | zero => intro d k; exact hb d k
  | succ f ih =>
    intro d k
    by_cases h : 455 < d
    · rw [adaptL_go h]
      have := ih (d / 35) (k + 36)
      omega
    · rw [adaptL_end h]
      exact hb d k
/-- What the loop begins with. -/
def adapt0 (delta count : Nat) (first : Bool) : Nat :=
  let d0 := if first then delta / 700 else delta / 2
  d0 + d0 / count
def adaptN (delta count : Nat) (first : Bool) : Nat := adaptL (adapt0 delta count first) (adapt0 delta count first) 0
/-- The bias behind any number. -/
def adaptZ (delta count : Int) (first : Bool) : Int := if delta < 0 ∨ count < 1 then 0 else (adaptN delta.toNat count.toNat first : Int)
theorem adapt0_le (delta count : Nat) (first : Bool) : adapt0 delta count first ≤ delta := by
  unfold adapt0
  have h1 : ∀ x, x / count ≤ x := fun x => Nat.div_le_self _ _
  cases first
  · have := h1 (delta / 2); simp; omega
  · have := h1 (delta / 700); simp; omega
theorem adaptN_le (delta count : Nat) (first : Bool) : adaptN delta count first ≤ 36 * delta + 36 := by
  have h1 := adapt0_le delta count first
  have h2 := adaptL_le (adapt0 delta count first) (adapt0 delta count first) 0
  unfold adaptN
  omega
def thrN (k b : Nat) : Nat := min (max (k - b) 1) 26
theorem thrN_range (k b : Nat) : 1 ≤ thrN k b ∧ thrN k b ≤ 26 := by unfold thrN; omega
def digN (n : Nat) : UInt8 := if n < 26 then UInt8.ofNat (97 + n) else UInt8.ofNat (22 + n)
/-- A number's digits, from a place on. -/
def numL : Nat → Nat → Nat → Nat → List UInt8
  | 0, n, _, _ => [digN n]
  | f + 1, n, k, b => if n < thrN k b then [digN n] else digN (thrN k b + (n - thrN k b) % (36 - thrN k b)) :: numL f ((n - thrN k b) / (36 - thrN k b)) (k + 36) b
theorem numL_last {f n k b : Nat} (h : n < thrN k b) : numL f n k b = [digN n] := by
  cases f with
  | zero => rfl
  | succ f => rw [numL, if_pos h]
theorem numL_more {f n k b : Nat} (h : ¬ n < thrN k b) : numL (f + 1) n k b = digN (thrN k b + (n - thrN k b) % (36 - thrN k b)) :: numL f ((n - thrN k b) / (36 - thrN k b)) (k + 36) b := by
  rw [numL, if_neg h]
theorem num_less {n k b : Nat} (h : ¬ n < thrN k b) : (n - thrN k b) / (36 - thrN k b) < n ∧ 10 * ((n - thrN k b) / (36 - thrN k b)) ≤ n := by
  have ht := thrN_range k b
  have h1 : (n - thrN k b) / (36 - thrN k b) ≤ (n - thrN k b) / 10 := Nat.div_le_div_left (by omega) (by omega)
  omega
theorem numL_len : ∀ (e f n k b : Nat), n < 10 ^ e → (numL f n k b).length ≤ e + 1 := by
  intro e
  induction e with
  | zero =>
    intro f n k b h
    have h0 : n = 0 := by simp at h; exact h
    subst h0
    rw [numL_last (by have := thrN_range k b; omega)]
    simp
  | succ e ih =>
    intro f n k b h
    by_cases hn : n < thrN k b
    · rw [numL_last hn]; simp
    · cases f with
      | zero => rw [numL]; simp
      | succ f =>
        rw [numL_more hn]
        have h2 := (num_less hn).2
        have := ih f ((n - thrN k b) / (36 - thrN k b)) (k + 36) b (by rw [Nat.pow_succ] at h; omega)
        simp only [List.length_cons]
        omega
def numD (n b : Nat) : List UInt8 := numL n n 36 b
theorem numD_len {n b : Nat} (h : n < 1000000000) : (numD n b).length ≤ 10 := numL_len 9 n n 36 b (by simpa using h)

/-- How far the encoding has come. -/
structure PSt where
  delta : Nat
  bias : Nat
  h : Nat
  out : List UInt8
/-- One character, where m is the least of those that aren't told. -/
def stepC (m basic : Nat) (s : PSt) (c : Nat) : PSt :=
  if c < m then ⟨s.delta + 1, s.bias, s.h, s.out⟩
  else if c = m then ⟨0, adaptN s.delta (s.h + 1) (decide (s.h = basic)), s.h + 1, s.out ++ numD s.delta s.bias⟩
  else s
def roundC (cs : List Nat) (basic m n : Nat) (s : PSt) : PSt := cs.foldl (stepC m basic) ⟨s.delta + (m - n) * (s.h + 1), s.bias, s.h, s.out⟩
def nextC (s : PSt) : PSt := ⟨s.delta + 1, s.bias, s.h, s.out⟩
def encR (cs : List Nat) (basic : Nat) : List Nat → Nat → PSt → PSt
  | [], _, s => s
  | m :: ms, n, s => encR cs basic ms (m + 1) (nextC (roundC cs basic m n s))
def insU (c : Nat) : List Nat → List Nat
  | [] => [c]
  | x :: l => if c < x then c :: x :: l else if c = x then x :: l else x :: insU c l
/-- The characters from 128 on, each once, from the least to the greatest. -/
def markL (cs : List Nat) : List Nat := cs.foldr (fun c l => if c < 128 then l else insU c l) []
def basicL (cs : List Nat) : List UInt8 := (cs.filter fun c => decide (c < 128)).map UInt8.ofNat
def basicO (cs : List Nat) : List UInt8 := if (basicL cs).length = 0 then [] else basicL cs ++ [45]
def encN (cs : List Nat) : List UInt8 := (encR cs (basicL cs).length (markL cs) 128 ⟨0, 72, (basicL cs).length, basicO cs⟩).out
theorem sp09 : encN [98, 252, 99, 104, 101, 114] = [98, 99, 104, 101, 114, 45, 107, 118, 97] := by decide +kernel

theorem insU_mem (c : Nat) : ∀ (l : List Nat) (x : Nat), x ∈ insU c l ↔ x = c ∨ x ∈ l := by
  intro l
  induction l with
  | nil => intro x; simp [insU]
  | cons y l ih =>
    intro x
    unfold insU
    by_cases h1 : c < y
    · rw [if_pos h1]; simp
    · rw [if_neg h1]
      by_cases h2 : c = y
      · rw [if_pos h2]; subst h2; simp
      · rw [if_neg h2, List.mem_cons, ih, List.mem_cons]
        constructor
        · rintro (h | h | h) <;> simp [h]
        · rintro (h | h | h) <;> simp [h]
theorem insU_up (c : Nat) : ∀ (l : List Nat), l.Pairwise (· < ·) → (insU c l).Pairwise (· < ·) := by
  intro l
  induction l with
  | nil => intro _; simp [insU]
  | cons y l ih =>
    intro h
    unfold insU
    have h' := List.pairwise_cons.1 h
    by_cases h1 : c < y
    · rw [if_pos h1, List.pairwise_cons]
      refine ⟨fun x hx => ?_, h⟩
      rcases List.mem_cons.1 hx with rfl | hx
      · exact h1
      · have := h'.1 x hx; omega
    · rw [if_neg h1]
      by_cases h2 : c = y
      · rw [if_pos h2]; exact h
      · rw [if_neg h2, List.pairwise_cons]
        refine ⟨fun x hx => ?_, ih h'.2⟩
        rcases (insU_mem c l x).1 hx with rfl | hx
        · omega
        · exact h'.1 x hx
theorem markL_up (cs : List Nat) : (markL cs).Pairwise (· < ·) := by
  unfold markL
  induction cs with
  | nil => simp
  | cons c cs ih =>
    rw [List.foldr_cons]
    split
    · exact ih
    · exact insU_up _ _ ih
theorem markL_mem (cs : List Nat) (x : Nat) : x ∈ markL cs ↔ x ∈ cs ∧ 128 ≤ x := by
  unfold markL
  induction cs with
  | nil => simp
  | cons c cs ih =>
    rw [List.foldr_cons]
    split
    · rename_i h
      rw [ih, List.mem_cons]
      exact ⟨fun ⟨a, b⟩ => ⟨.inr a, b⟩, fun ⟨a, b⟩ => ⟨a.resolve_left (by omega), b⟩⟩
    · rename_i h
      rw [insU_mem, ih, List.mem_cons]
      constructor
      · rintro (rfl | ⟨a, b⟩)
        · exact ⟨.inl rfl, by omega⟩
        · exact ⟨.inr a, b⟩
      · rintro ⟨rfl | a, b⟩
        · exact .inl rfl
        · exact .inr ⟨a, b⟩
theorem up_unique : ∀ (l l' : List Nat), l.Pairwise (· < ·) → l'.Pairwise (· < ·) → (∀ x, x ∈ l ↔ x ∈ l') → l = l' := by
  intro l
  induction l with
  | nil =>
    intro l' _ _ h
    cases l' with
    | nil => rfl
    | cons x l' => exact absurd ((h x).2 (by simp)) (by simp)
  | cons a l ih =>
    intro l' h1 h2 h
    cases l' with
    | nil => exact absurd ((h a).1 (by simp)) (by simp)
    | cons b l' =>
      have h1' := List.pairwise_cons.1 h1
      have h2' := List.pairwise_cons.1 h2
      have hab : a = b := by
        rcases List.mem_cons.1 ((h a).1 (by simp)) with e | e
        · exact e
        · rcases List.mem_cons.1 ((h b).2 (by simp)) with e' | e'
          · exact e'.symm
          · have := h2'.1 a e; have := h1'.1 b e'; omega
      subst hab
      congr 1
      refine ih l' h1'.2 h2'.2 fun x => ⟨fun hx => ?_, fun hx => ?_⟩
      · rcases List.mem_cons.1 ((h x).1 (by simp [hx])) with rfl | e
        · exact absurd (h1'.1 x hx) (by omega)
        · exact e
      · rcases List.mem_cons.1 ((h x).2 (by simp [hx])) with rfl | e
        · exact absurd (h2'.1 x hx) (by omega)
        · exact e

/-! ### Bounds -/
/-- How great what is kept may be. -/
def PBound (b n : Nat) (s : PSt) : Prop := s.delta ≤ 257 * n ∧ s.bias ≤ 20000000000 ∧ s.h ≤ b
theorem count_step (m basic : Nat) (s : PSt) (c : Nat) : (stepC m basic s c).delta ≤ s.delta + 1 := by
  unfold stepC
  split
  · exact Nat.le_refl _
  · split
    · exact Nat.zero_le _
    · exact Nat.le_succ _
end Go.Proofs.Ytakcfgmibijdnaa

/- The code's ints. -/
namespace Go.Proofs.Ytakcfgmibijdnaa
open Go.RowKit

theorem info_int : (Try.prog.info? 3).map (fun i => (i.zero, i.size, i.bytes)) = some (some (.int .i64 0), 1, 8) := by kernel_rfl
def intV (n : Nat) : Value := .int .i64 (n : Int)
end Go.Proofs.Ytakcfgmibijdnaa
