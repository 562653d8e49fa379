/- Addresses of eight groups: plain facts. -/
import Derived.Test.YtameipbnobaoeaaDoorHexadMappedM2
import Derived.Test.YtameipbnobaoeaaDoorHexadMappedM9
import Derived.Test.YtameipbnobaoeaaDoorShelf
import Derived.Lib.IndexMore
import Derived.Test.YtameipbnobaoeaaDoorHexadMappedM1
import Derived.Test.YtameipbnobaoeaaDoorHexadMappedM7
import Derived.Deep.OwnRows
import Derived.Laws.Tables
import Derived.Laws.ResultCell
import Derived.Laws.OwnMore
import Derived.OwnWalk

namespace Go.Proofs.YtameipbnobaoeaaDoor
open Go.RowKit

/-- A group's text. -/
def hexG (n : Nat) : List UInt8 := lowerL (writ 16 n 1)
theorem hexG_is (n : Nat) : lowerS ⟨(writ 16 n 1).toArray⟩ = ofL (hexG n) := rfl
theorem valN_lower (c : UInt8) : valN (lowerB c).toNat = valN c.toNat := by
  have : ∀ n : Fin 256, valN (lowerB (UInt8.ofNat n.1)).toNat = valN (UInt8.ofNat n.1).toNat := by decide +kernel
  have := this ⟨c.toNat, c.toNat_lt⟩
  simpa using this
theorem hexG_small {n : Nat} {x : UInt8} (h : x ∈ hexG n) : valN x.toNat < 16 := by
  unfold hexG lowerL at h
  obtain ⟨c, hc, rfl⟩ := List.mem_map.1 h
  rw [valN_lower]
  exact digs_small 16 (by omega) (by omega) _ n c hc
theorem hexG_free {n : Nat} {x : UInt8} (h : x ∈ hexG n) : x ≠ 58 := by
  rintro rfl
  have := hexG_small h
  revert this; decide
theorem ndigs16 {n : Nat} (h : n < 65536) : ndigs 16 64 n ≤ 4 := by
  have h0 := ndigs_pos 16 (by omega) 64 n 4 (Nat.lt_of_lt_of_le h (by decide))
  have h1 : n / 16 ^ 4 = 0 := Nat.div_eq_of_lt h
  rw [h1] at h0
  omega
theorem hexG_len {n : Nat} (h : n < 65536) : 1 ≤ (hexG n).length ∧ (hexG n).length ≤ 4 := by
  have := ndigs16 h
  unfold hexG lowerL writ
  rw [List.length_map, digs_length]
  omega
theorem byteAt_lower (s : ByteArray) (i : Nat) (hi : i < s.size) : byteAt (lowerS s) i = lowerB (byteAt s i) := by
  have hl : s.data.toList.length = s.size := rfl
  unfold byteAt lowerS lowerL
  simp [List.getD, List.getElem?_map, List.getElem?_eq_getElem (show i < s.data.toList.length by omega)]
theorem numTo_lower (base : Nat) (s : ByteArray) : ∀ k, k ≤ s.size → numTo base (lowerS s) k = numTo base s k := by
  intro k
  induction k with
  | zero => intro _; rfl
  | succ k ih => intro hk; rw [numTo, numTo, ih (by omega), byteAt_lower s k (by omega), valN_lower]
theorem firstBad_lower (base : Nat) (s : ByteArray) : firstBad base (lowerS s) = firstBad base s := by
  have hf : ∀ l : List Nat, (∀ i ∈ l, i < s.size) → (l.find? fun i => decide (base ≤ valN (byteAt (lowerS s) i).toNat)) = l.find? fun i => decide (base ≤ valN (byteAt s i).toNat) := by
    intro l
    induction l with
    | nil => intro _; rfl
    | cons a l ih =>
      intro h
      rw [List.find?_cons, List.find?_cons, byteAt_lower s a (h a (.head _)), valN_lower, ih fun i hi => h i (.tail _ hi)]
  unfold firstBad
  rw [lowerS_size]
  exact hf _ fun i hi => List.mem_range.1 hi
theorem numRes_lower (s : ByteArray) (base most : Nat) : numRes (lowerS s) base most = numRes s base most := by
  unfold numRes
  rw [lowerS_size, firstBad_lower, numTo_lower base s s.size (Nat.le_refl _)]
theorem numRes_most {s : ByteArray} {base n m : Nat} (h : numRes s base 18446744073709551615 = (n, 0, 0)) (hn : n ≤ m) : numRes s base m = (n, 0, 0) := by
  unfold numRes at h ⊢
  split at h
  · cases h
  · next h0 =>
    rw [if_neg h0]
    split at h
    · cases h
    · split at h
      · cases h
      · next h1 =>
        simp only [Prod.mk.injEq] at h
        rw [if_neg (by omega), h.1]
theorem hexG_num {n : Nat} (h : n < 65536) : numRes (ofL (hexG n)) 16 65535 = (n, 0, 0) := by
  rw [← hexG_is, numRes_lower]
  refine numRes_most ?_ (by omega)
  unfold writ
  have h1 := ndigs_lt 16 (by omega) 64 n (Nat.lt_of_lt_of_le h (by decide))
  refine numRes_digs 16 (by omega) (by omega) _ n (by omega) ?_ (by omega)
  exact Nat.lt_of_lt_of_le h1 (Nat.pow_le_pow_right (by omega) (by omega))
/-- A group's number. -/
def groupH (p : ByteArray) : Option Nat := if (numRes p 16 65535).2.1 = 0 ∧ p.size ≤ 4 then some (numRes p 16 65535).1 else none
theorem group_hex {n : Nat} (h : n < 65536) : groupH (ofL (hexG n)) = some n := by
  unfold groupH
  rw [hexG_num h, if_pos ⟨rfl, by rw [ofL_size]; exact (hexG_len h).2⟩]
/-- The numbers of parts; last: an address of four bytes may stand at the end. -/
def rowL (last : Bool) : List ByteArray → Option (List Nat)
  | [] => some []
  | p :: ps => match groupH p with
    | some n => (rowL last ps).map (n :: ·)
    | none => if (strictB p && (last && ps.isEmpty)) = true then some [(parseQ p).1 / 65536 % 65536, (parseQ p).1 % 65536] else none
def rowH (last : Bool) (s : ByteArray) : Option (List Nat) := if s.size = 0 then some [] else rowL last ((splitL 58 s.data.toList).map ofL)
/-- What is ahead of the first two colons, and what behind. -/
def cut2 : List UInt8 → Option (List UInt8 × List UInt8)
  | [] => none
  | c :: l => if c = 58 ∧ l.head? = some 58 then some ([], l.tail) else (cut2 l).map fun x => (c :: x.1, x.2)
def fillH (a b : List Nat) : List Nat := a ++ (List.replicate (8 - a.length - b.length) 0 ++ b)
/-- An address's groups. -/
def parseH (s : ByteArray) : Option (List Nat) := match cut2 s.data.toList with
  | none => match rowH true s with
    | some a => if a.length = 8 then some a else none
    | none => none
  | some (l, r) => match rowH false (ofL l), rowH true (ofL r) with
    | some a, some b => if a.length + b.length ≤ 7 then some (fillH a b) else none
    | _, _ => none
/-- The longest row of noughts: as far as it was looked: where it is, how long it is, how long the row is that goes on. -/
def longA : List Bool → Nat → Nat × Nat × Nat → Nat × Nat × Nat
  | [], _, st => st
  | b :: bs, i, (a, s, r) => longA bs (i + 1) (if s < (if b = true then r + 1 else 0) then (i + 1 - (if b = true then r + 1 else 0), (if b = true then r + 1 else 0), (if b = true then r + 1 else 0)) else (a, s, (if b = true then r + 1 else 0)))
def zerosH (g : List Nat) : List Bool := g.map fun n => decide (n = 0)
def longH (g : List Nat) : Nat × Nat := ((longA (zerosH g) 0 (0, 0, 0)).1, (longA (zerosH g) 0 (0, 0, 0)).2.1)
/-- An address's text. -/
def textH (g : List Nat) : List UInt8 := if (longH g).2 < 2 then joinA 58 (g.map hexG) else joinA 58 ((g.take (longH g).1).map hexG) ++ 58 :: 58 :: joinA 58 ((g.drop ((longH g).1 + (longH g).2)).map hexG)
theorem long_facts : ∀ b0 b1 b2 b3 b4 b5 b6 b7 : Bool, (longA [b0, b1, b2, b3, b4, b5, b6, b7] 0 (0, 0, 0)).1 + (longA [b0, b1, b2, b3, b4, b5, b6, b7] 0 (0, 0, 0)).2.1 ≤ 8 ∧
    (([b0, b1, b2, b3, b4, b5, b6, b7].drop (longA [b0, b1, b2, b3, b4, b5, b6, b7] 0 (0, 0, 0)).1).take (longA [b0, b1, b2, b3, b4, b5, b6, b7] 0 (0, 0, 0)).2.1).all id = true := by decide +kernel
theorem eight {α : Type} {l : List α} (h : l.length = 8) : ∃ a b c d e f g i, l = [a, b, c, d, e, f, g, i] := by
  match l, h with
  | [a, b, c, d, e, f, g, i], _ => exact ⟨a, b, c, d, e, f, g, i, rfl⟩
theorem long_le {g : List Nat} (h : g.length = 8) : (longH g).1 + (longH g).2 ≤ 8 := by
  obtain ⟨a, b, c, d, e, f, x, y, rfl⟩ := eight h
  exact (long_facts _ _ _ _ _ _ _ _).1
theorem long_zero {g : List Nat} (h : g.length = 8) : (g.drop (longH g).1).take (longH g).2 = List.replicate (longH g).2 0 := by
  have hl := long_le h
  have hall : ((zerosH g).drop (longH g).1).take (longH g).2 |>.all id := by
    obtain ⟨a, b, c, d, e, f, x, y, rfl⟩ := eight h
    exact (long_facts _ _ _ _ _ _ _ _).2
  rw [List.eq_replicate_iff]
  refine ⟨by rw [List.length_take, List.length_drop]; omega, fun b hb => ?_⟩
  unfold zerosH at hall
  rw [← List.map_drop, ← List.map_take, List.all_map, List.all_eq_true] at hall
  simpa using hall b hb
/-- What has no two colons in a row, and no colon at its end. -/
theorem cut2_free : ∀ {l r : List UInt8}, (∀ x ∈ l, x ≠ 58) → l ≠ [] → cut2 (l ++ r) = (cut2 r).map (fun x => (l ++ x.1, x.2)) := by
  intro l
  induction l with
  | nil => intro r _ h; exact absurd rfl h
  | cons c l ih =>
    intro r h _
    rw [List.cons_append, cut2, if_neg (fun e => h c (.head _) e.1)]
    by_cases hl : l = []
    · subst hl; rfl
    · rw [ih (fun x hx => h x (.tail _ hx)) hl, Option.map_map]
      congr 1
theorem cut2_colon {c : UInt8} {l : List UInt8} (h : c ≠ 58) : cut2 (58 :: c :: l) = (cut2 (c :: l)).map fun x => (58 :: x.1, x.2) := by
  rw [cut2, if_neg (fun e => h (by simpa using e.2))]
theorem cut2_join : ∀ (ps : List (List UInt8)), (∀ p ∈ ps, p ≠ [] ∧ ∀ x ∈ p, x ≠ 58) → ∀ r, ps ≠ [] → cut2 (joinA 58 ps ++ r) = (cut2 r).map fun x => (joinA 58 ps ++ x.1, x.2) := by
  intro ps
  induction ps with
  | nil => intro _ r h; exact absurd rfl h
  | cons p ps ih =>
    intro h r _
    obtain ⟨hp1, hp2⟩ := h p (.head _)
    cases ps with
    | nil => exact cut2_free hp2 hp1
    | cons q qs =>
      have hq := h q (.tail _ (.head _))
      have ih' := ih (fun x hx => h x (.tail _ hx)) r (by simp)
      show cut2 ((p ++ 58 :: joinA 58 (q :: qs)) ++ r) = _
      rw [List.append_assoc, cut2_free hp2 hp1]
      obtain ⟨c, q', hq'⟩ : ∃ c q', q = c :: q' := by
        cases q with
        | nil => exact absurd rfl hq.1
        | cons c q' => exact ⟨c, q', rfl⟩
      have hc : c ≠ 58 := hq.2 c (by rw [hq']; exact .head _)
      have hj : ∃ t, joinA 58 (q :: qs) = c :: t := by
        cases qs with
        | nil => exact ⟨q', hq'⟩
        | cons z zs => exact ⟨q' ++ 58 :: joinA 58 (z :: zs), by rw [hq']; rfl⟩
      obtain ⟨t, ht⟩ := hj
      rw [ht] at ih' ⊢
      rw [List.cons_append, List.cons_append, cut2_colon hc, ← List.cons_append, ih', Option.map_map, Option.map_map]
      congr 1
      funext x
      show (p ++ 58 :: (c :: t ++ x.1), x.2) = ((p ++ 58 :: joinA 58 (q :: qs)) ++ x.1, x.2)
      rw [ht]
      simp
theorem pieces_ok {g : List Nat} (h : ∀ n ∈ g, n < 65536) : ∀ p ∈ g.map hexG, p ≠ [] ∧ ∀ x ∈ p, x ≠ 58 := by
  intro p hp
  obtain ⟨n, hn, rfl⟩ := List.mem_map.1 hp
  have := hexG_len (h n hn)
  exact ⟨fun e => by rw [e] at this; simp at this, fun x hx => hexG_free hx⟩
theorem rowL_hex (last : Bool) : ∀ {g : List Nat}, (∀ n ∈ g, n < 65536) → rowL last ((g.map hexG).map ofL) = some g := by
  intro g
  induction g with
  | nil => intro _; rfl
  | cons n g ih =>
    intro h
    rw [List.map_cons, List.map_cons, rowL, group_hex (h n (.head _))]
    simp only
    rw [ih fun x hx => h x (.tail _ hx)]
    rfl
theorem rowH_join (last : Bool) {g : List Nat} (h : ∀ n ∈ g, n < 65536) : rowH last (ofL (joinA 58 (g.map hexG))) = some g := by
  unfold rowH
  by_cases hg : g = []
  · subst hg
    exact if_pos rfl
  · have hne : g.map hexG ≠ [] := by simpa using hg
    have hj : joinA 58 (g.map hexG) ≠ [] := fun e => hne ((joinA_nil (fun p hp => (pieces_ok h p hp).1)).1 e)
    rw [if_neg (by rw [ofL_size]; intro e; exact hj (List.eq_nil_of_length_eq_zero e)), ofL_list2', split_join 58 _ hne (fun p hp => (pieces_ok h p hp).2)]
    exact rowL_hex last h
where
  ofL_list2' : (ofL (joinA 58 (g.map hexG))).data.toList = joinA 58 (g.map hexG) := by simp [ofL]
theorem text_parse {g : List Nat} (h : ∀ n ∈ g, n < 65536) (h8 : g.length = 8) : parseH (ofL (textH g)) = some g := by
  have hl := long_le h8
  have hz := long_zero h8
  unfold parseH textH
  generalize (longH g).1 = a at *
  generalize (longH g).2 = s at *
  by_cases hs : s < 2
  · rw [if_pos hs]
    have hne : g.map hexG ≠ [] := by intro e; have := congrArg List.length e; simp [h8] at this
    have hc : cut2 (ofL (joinA 58 (g.map hexG))).data.toList = none := by
      have := cut2_join (g.map hexG) (pieces_ok h) [] hne
      rw [List.append_nil] at this
      rw [show (ofL (joinA 58 (g.map hexG))).data.toList = joinA 58 (g.map hexG) by simp [ofL], this]
      rfl
    rw [hc, rowH_join true h]
    simp only
    rw [if_pos h8]
  · rw [if_neg hs]
    have h1 : ∀ n ∈ g.take a, n < 65536 := fun n hn => h n (List.mem_of_mem_take hn)
    have h2 : ∀ n ∈ g.drop (a + s), n < 65536 := fun n hn => h n (List.mem_of_mem_drop hn)
    have hc : cut2 (ofL (joinA 58 ((g.take a).map hexG) ++ 58 :: 58 :: joinA 58 ((g.drop (a + s)).map hexG))).data.toList = some (joinA 58 ((g.take a).map hexG), joinA 58 ((g.drop (a + s)).map hexG)) := by
      rw [show ∀ l, (ofL l).data.toList = l from fun l => by simp [ofL]]
      by_cases ht : g.take a = []
      · rw [ht]; rfl
      · rw [cut2_join _ (pieces_ok h1) _ (by simpa using ht)]
        show some (joinA 58 _ ++ [], _) = _
        rw [List.append_nil]
        rfl
    rw [hc]
    simp only
    rw [rowH_join false h1, rowH_join true h2]
    simp only
    have l1 : (g.take a).length = a := by rw [List.length_take]; omega
    have l2 : (g.drop (a + s)).length = 8 - (a + s) := by rw [List.length_drop]; omega
    rw [l1, l2, if_pos (by omega)]
    congr 1
    unfold fillH
    rw [l1, l2, show 8 - a - (8 - (a + s)) = s by omega, ← hz, ← List.drop_drop, List.take_append_drop, List.take_append_drop]
end Go.Proofs.YtameipbnobaoeaaDoor

/- strings.Cut at two colons. -/
namespace Go.Proofs.YtameipbnobaoeaaDoor
open Go.RowKit

theorem pre2 (b : UInt8) (l : List UInt8) : ([58, 58] : List UInt8).isPrefixOf (b :: l) = decide (b = 58 ∧ l.head? = some 58) := by
  cases l with
  | nil => simp [List.isPrefixOf]
  | cons c l =>
    rw [Bool.eq_iff_iff]
    simp [List.isPrefixOf]
    constructor
    · rintro ⟨rfl, rfl⟩; exact ⟨rfl, rfl⟩
    · rintro ⟨rfl, rfl⟩; exact ⟨rfl, rfl⟩
theorem index2 : ∀ l : List UInt8, (cut2 l = none ∧ Lib.index l [58, 58] = -1) ∨ ∃ a b, cut2 l = some (a, b) ∧ Lib.index l [58, 58] = (a.length : Int) ∧ l = a ++ 58 :: 58 :: b := by
  intro l
  induction l with
  | nil => exact .inl ⟨rfl, rfl⟩
  | cons c l ih =>
    rw [cut2, Lib.index, pre2]
    by_cases h : c = 58 ∧ l.head? = some 58
    · rw [if_pos h, decide_eq_true h, if_pos rfl]
      obtain ⟨rfl, h2⟩ := h
      cases l with
      | nil => cases h2
      | cons d l =>
        simp at h2
        subst h2
        exact .inr ⟨[], l, rfl, rfl, rfl⟩
    · rw [if_neg h, decide_eq_false h, if_neg (by decide)]
      rcases ih with ⟨h1, h2⟩ | ⟨a, b, h1, h2, h3⟩
      · rw [h1, h2]
        exact .inl ⟨rfl, rfl⟩
      · rw [h1, h2]
        refine .inr ⟨c :: a, b, rfl, ?_, by rw [h3]; rfl⟩
        rw [if_neg (by simp <;> omega)]
        simp
theorem lib_cut2 (l : List UInt8) : Lib.cut l [58, 58] = match cut2 l with | none => (l, [], false) | some (a, b) => (a, b, true) := by
  unfold Lib.cut
  rcases index2 l with ⟨h1, h2⟩ | ⟨a, b, h1, h2, h3⟩
  · rw [h1, h2]; rfl
  · rw [h1, h2, if_pos (by omega)]
    simp only
    rw [h3]
    simp
/-- The variable of the library that is read on the way: it holds some number. -/
def MaxAt (w : World) : Prop := ∃ m, w.cell? ⟨0, 0, none⟩ = some (.int .i64 m)
theorem MaxAt.below {w w' : World} (h : MaxAt w) (hb : Below w.heap.size w w') : MaxAt w' := by
  obtain ⟨m, hm⟩ := h
  have hlt : 0 < w.heap.size := by
    unfold World.cell? at hm
    cases hh : w.heap[(⟨0, 0, none⟩ : Addr).block]? with
    | none => rw [hh] at hm; simp at hm
    | some o => exact (Array.getElem?_eq_some_iff.1 hh).1
  exact ⟨m, (hb.cell (p := ⟨0, 0, none⟩) hlt).trans hm⟩
theorem strings_Cut2 (s : ByteArray) (w : World) (hs : s.size ≤ 16777216) (hm : MaxAt w) : Calls Tryd.prog 15 #[.string s, .string ⟨#[58, 58]⟩] w fun e w' =>
    e = .returned (.tuple (match cut2 s.data.toList with | none => #[.string s, .string ⟨#[]⟩, .bool false] | some (a, b) => #[.string (ofL a), .string (ofL b), .bool true])) ∧ Below w.heap.size w w' := by
  obtain ⟨m, hm⟩ := hm
  refine (Tryd.strings_Cut s ⟨#[58, 58]⟩ m w (by omega) hm).mono ?_
  rintro e w' ⟨rfl, n, rfl⟩
  refine ⟨?_, below_drewN (Below.refl _ _) n⟩
  rw [show (⟨#[58, 58]⟩ : ByteArray).data.toList = [58, 58] from rfl, lib_cut2]
  cases hc : cut2 s.data.toList with
  | none => rfl
  | some x => obtain ⟨a, b⟩ := x; rfl
end Go.Proofs.YtameipbnobaoeaaDoor

/- Arrays of numbers, in memory; rows of sixteen-bit numbers. -/
namespace Go.Proofs.YtameipbnobaoeaaDoor
open Go.RowKit

def u16V (n : Nat) : Value := .int .u16 (n : Int)
def u8V (n : Nat) : Value := .int .u8 (n : Int)
/-- A block that holds such cells and no others. -/
def ArrAt (w : World) (g : Nat) (t : TypeId) (l : List Value) : Prop := w.heap[g]? = some (.cells l.toArray t (0, 0))
section
variable {w w' : World} {g : Nat} {t : TypeId} {l : List Value} {n : Nat} {f : Nat → Value}
theorem ArrAt.lt (h : ArrAt w g t l) : g < w.heap.size := lt_of_block h
theorem ArrAt.below (h : ArrAt w g t l) (hb : Below w.heap.size w w') : ArrAt w' g t l := (hb.block g h.lt).trans h
theorem ArrAt.row (h : ArrAt w g t l) (hn : l.length = n) (hf : ∀ i, i < n → l[i]? = some (f i)) : w.rowIs g t n f :=
  ⟨l.toArray, h, by simpa using hn, fun i hi => by simpa using hf i hi⟩
theorem ArrAt.ofRow (h : w.rowIs g t n f) : ArrAt w g t ((List.range n).map f) := by
  obtain ⟨c, hc, hn, hf⟩ := h
  unfold ArrAt
  rw [hc]
  congr 2
  apply Array.ext
  · simp [hn]
  · intro i hi hi2
    have := hf i (by omega)
    rw [Array.getElem?_eq_getElem hi] at this
    injection this with this
    rw [this]
    simp
theorem ArrAt.cell (h : ArrAt w g t l) {i : Nat} {v : Value} (hv : l[i]? = some v) : w.cell? ⟨g, i, none⟩ = some v := by
  unfold ArrAt at h
  rw [cell_of_row w g i _ _ _ h]
  simpa using hv
theorem ArrAt.frozen (h : ArrAt w g t l) (j : Nat) : w.frozen? ⟨g, j, none⟩ = false := by
  unfold ArrAt at h; simp [World.frozen?, h]
end
theorem size_g8 : (Tryd.prog.info? 26).map (·.size) = some 8 := by kernel_rfl
theorem size_v6 : (Tryd.prog.info? 23).map (·.size) = some 16 := by kernel_rfl
theorem ArrAt.load8 {w : World} {g : Nat} {t : TypeId} {l : List Value} (h : ArrAt w g t l) (hl : l.length = 8) : (loadVar 26 ⟨g, 0, none⟩).run Tryd.prog w = .ok (.agg l.toArray) w :=
  run_loadVar_row w g _ _ _ _ _ h Tryd.underlying26 rfl (by rw [size_g8]; simp [hl])
theorem ArrAt.load6 {w : World} {g : Nat} {t : TypeId} {l : List Value} (h : ArrAt w g t l) (hl : l.length = 16) : (loadVar 23 ⟨g, 0, none⟩).run Tryd.prog w = .ok (.agg l.toArray) w :=
  run_loadVar_row w g _ _ _ _ _ h Tryd.underlying23 rfl (by rw [size_v6]; simp [hl])
section
variable {fn : Func} {p : Tmp} {tmps : Array Value} {w : World} {g : Nat} {t : TypeId} {l : List Value}
theorem results_g8 (h : fn.results = #[.cell p 26]) (hp : tmps.getD p undef = .pointer (some ⟨g, 0, none⟩)) (hg : ArrAt w g t l) (hl : l.length = 8) :
    (results fn tmps).run Tryd.prog w = .ok (.agg l.toArray) w := by
  have hp' : tmps[p]?.getD undef = .pointer (some ⟨g, 0, none⟩) := by simpa using hp
  simp [results, h, hp', asAddr, Result.andThen, hg.load8 hl, Sem.run_bind]
theorem results_v6 (h : fn.results = #[.cell p 23]) (hp : tmps.getD p undef = .pointer (some ⟨g, 0, none⟩)) (hg : ArrAt w g t l) (hl : l.length = 16) :
    (results fn tmps).run Tryd.prog w = .ok (.agg l.toArray) w := by
  have hp' : tmps[p]?.getD undef = .pointer (some ⟨g, 0, none⟩) := by simpa using hp
  simp [results, h, hp', asAddr, Result.andThen, hg.load6 hl, Sem.run_bind]
end
/-- The numbers of groups, of sixteen bytes. -/
def grpB (b : List Nat) (i : Nat) : Nat := b.getD (2 * i) 0 * 256 + b.getD (2 * i + 1) 0
def grps (b : List Nat) : List Nat := (List.range 8).map (grpB b)
/-- The bytes of eight groups. -/
def byteG (g : List Nat) (j : Nat) : Nat := if j % 2 = 0 then g.getD (j / 2) 0 / 256 else g.getD (j / 2) 0 % 256
def bytesG (g : List Nat) : List Nat := (List.range 16).map (byteG g)
theorem grps_len (b : List Nat) : (grps b).length = 8 := by unfold grps; simp
theorem bytesG_len (g : List Nat) : (bytesG g).length = 16 := by unfold bytesG; simp
theorem sixteen {α : Type} {l : List α} (h : l.length = 16) : ∃ a0 a1 a2 a3 a4 a5 a6 a7 a8 a9 a10 a11 a12 a13 a14 a15, l = [a0, a1, a2, a3, a4, a5, a6, a7, a8, a9, a10, a11, a12, a13, a14, a15] := by
  match l, h with
  | [a0, a1, a2, a3, a4, a5, a6, a7, a8, a9, a10, a11, a12, a13, a14, a15], _ => exact ⟨a0, a1, a2, a3, a4, a5, a6, a7, a8, a9, a10, a11, a12, a13, a14, a15, rfl⟩
theorem eightM {α : Type} {l : List α} (h : l.length = 8) : ∃ a b c d e f g i, l = [a, b, c, d, e, f, g, i] := by
  match l, h with
  | [a, b, c, d, e, f, g, i], _ => exact ⟨a, b, c, d, e, f, g, i, rfl⟩
theorem getD_lt {b : List Nat} {m : Nat} (h : ∀ x ∈ b, x < m) (hm : 0 < m) (i : Nat) : b.getD i 0 < m := by
  rw [List.getD]
  cases hx : b[i]? with
  | none => exact hm
  | some x => exact h x (List.mem_of_getElem? hx)
theorem grps_lt {b : List Nat} (h : ∀ x ∈ b, x < 256) : ∀ n ∈ grps b, n < 65536 := by
  intro n hn
  obtain ⟨i, _, rfl⟩ := List.mem_map.1 hn
  have h1 := getD_lt h (by omega) (2 * i)
  have h2 := getD_lt h (by omega) (2 * i + 1)
  unfold grpB
  omega
theorem bytes_grps {b : List Nat} (h : ∀ x ∈ b, x < 256) (hl : b.length = 16) : bytesG (grps b) = b := by
  apply List.ext_getElem
  · rw [bytesG_len, hl]
  · intro j h1 h2
    rw [bytesG_len] at h1
    have hg : ∀ i, i < 8 → (grps b).getD i 0 = grpB b i := fun i hi => by unfold grps; simp [List.getD, hi]
    have hj : bytesG (grps b) = (List.range 16).map (byteG (grps b)) := rfl
    simp only [hj, List.getElem_map, List.getElem_range]
    have hbj : b[j] = b.getD j 0 := by simp [List.getD, List.getElem?_eq_getElem h2]
    rw [hbj]
    unfold byteG
    rw [hg (j / 2) (by omega)]
    unfold grpB
    have l1 := getD_lt h (by omega) (2 * (j / 2))
    have l2 := getD_lt h (by omega) (2 * (j / 2) + 1)
    split
    · have e : 2 * (j / 2) = j := by omega
      rw [e] at l1 l2 ⊢
      omega
    · have e : 2 * (j / 2) + 1 = j := by omega
      rw [e] at l2 ⊢
      omega
end Go.Proofs.YtameipbnobaoeaaDoor
