/- Plain facts on UTF-8: the character at a place of a text. -/
import Derived.Test.YtakcfgmibijdnaaGreatDoorQueryWritesM1
import Derived.Lib.DecodeNEq
import Derived.Shelf.Unicode.DecodeSlow
import Derived.Test.YtakcfgmibijdnaaGreatDoorQueryWritesM6
import Derived.Test.YtakcfgmibijdnaaGreatDoorQueryWritesM2
import Derived.Test.YtakcfgmibijdnaaGreatDoorQueryWritesM4
import Derived.Lib.Join
import Derived.Test.YtakcfgmibijdnaaGreatDoorQueryWritesM5
import Derived.Test.YtakcfgmibijdnaaGreatDoorQueryWritesM3
import Derived.Laws.OwnMore
import Derived.Deep.OwnRows
import Derived.Maps.AppendAt
import Derived.Lib.SlicesS
import Derived.Test.YtakcfgmibijdnaaGreatDoorShelf
import Derived.Laws.Tables
import Derived.Laws.ResultCell

namespace Go.Proofs.YtakcfgmibijdnaaGreatDoor

/-- What Go's decoder tells of a place. -/
def decB (s : ByteArray) (i : Nat) : Nat × Nat := Lib.decodeN (s.size - i) (byteAt s i).toNat (byteAt s (i + 1)).toNat (byteAt s (i + 2)).toNat (byteAt s (i + 3)).toNat
/-- A character stands at a place. -/
def okB (s : ByteArray) (i : Nat) : Bool := decide (decB s i ≠ (65533, 1))
/-- A number is a character. -/
def rightC (n : Nat) : Prop := n < 55296 ∨ (57344 ≤ n ∧ n ≤ 1114111)

theorem byteAt_get (s : ByteArray) (i : Nat) : s.get! i = byteAt s i := by
  unfold byteAt ByteArray.get!
  simp [List.getD, Array.getElem!_eq_getD, Array.getD_eq_getD_getElem?]
  rfl

theorem decodeN_bounds (n b0 b1 b2 b3 : Nat) (hn : 0 < n) (h0 : b0 < 256) : 1 ≤ (Lib.decodeN n b0 b1 b2 b3).2 ∧ (Lib.decodeN n b0 b1 b2 b3).2 ≤ 4 ∧ (Lib.decodeN n b0 b1 b2 b3).2 ≤ n ∧ rightC (Lib.decodeN n b0 b1 b2 b3).1 := by
  unfold Lib.decodeN rightC
  repeat' split
  all_goals (simp only []; omega)

theorem decB_bounds (s : ByteArray) (i : Nat) (hi : i < s.size) : 1 ≤ (decB s i).2 ∧ (decB s i).2 ≤ 4 ∧ i + (decB s i).2 ≤ s.size ∧ rightC (decB s i).1 := by
  have := decodeN_bounds (s.size - i) (byteAt s i).toNat (byteAt s (i + 1)).toNat (byteAt s (i + 2)).toNat (byteAt s (i + 3)).toNat (by omega) (byteAt s i).toNat_lt
  change 1 ≤ (decB s i).2 ∧ (decB s i).2 ≤ 4 ∧ (decB s i).2 ≤ s.size - i ∧ rightC (decB s i).1 at this
  obtain ⟨a, b, c, d⟩ := this
  exact ⟨a, b, by omega, d⟩

theorem byteAt_extract (s : ByteArray) (i j : Nat) (_ : i + j < s.size) : byteAt (s.extract i s.size) j = byteAt s (i + j) := by
  unfold byteAt
  rw [Lib.extract_data, List.take_of_length_le (by simp)]
  simp [List.getD]
theorem byteAt_out (s : ByteArray) (j : Nat) (h : s.size ≤ j) : byteAt s j = 0 := by
  unfold byteAt
  rw [List.getD, List.getElem?_eq_none (by exact h)]
  rfl
theorem extract_tail_size (s : ByteArray) (i : Nat) (h : i ≤ s.size) : (s.extract i s.size).size = s.size - i := by
  rw [ByteArray.size_extract]; omega

theorem decodeGo_extract (s : ByteArray) (i : Nat) (hi : i < s.size) : Lib.decodeGo (s.extract i s.size) = decB s i := by
  have hsz := extract_tail_size s i (by omega)
  have hb : ∀ j, byteAt (s.extract i s.size) j = byteAt s (i + j) := fun j => by
    by_cases h : i + j < s.size
    · exact byteAt_extract s i j h
    · rw [byteAt_out _ _ (by rw [hsz]; omega), byteAt_out _ _ (by omega)]
  rw [Lib.decodeGo, if_neg (by omega), Lib.decode_at, hsz, Nat.sub_zero]
  simp only [byteAt_get, hb, Nat.zero_add, decB, Nat.add_zero]

/-- The characters from a place on, and the place at which none stands. -/
def chrsFrom (s : ByteArray) : Nat → Nat → List Nat × Option Nat
  | 0, _ => ([], none)
  | f + 1, i => if i < s.size then (if okB s i = true then ((decB s i).1 :: (chrsFrom s f (i + (decB s i).2)).1, (chrsFrom s f (i + (decB s i).2)).2) else ([], some i)) else ([], none)
/-- A text's characters, and the place at which none stands. -/
def chrs (s : ByteArray) : List Nat × Option Nat := chrsFrom s s.size 0

/-- So many characters have been read, up to a place. -/
def Reach (s : ByteArray) (l : List Nat) (i : Nat) : Prop := ∃ f, s.size - i ≤ f ∧ l.length ≤ i ∧ chrs s = (l ++ (chrsFrom s f i).1, (chrsFrom s f i).2)
theorem Reach.zero (s : ByteArray) : Reach s [] 0 := ⟨s.size, by omega, by simp, by simp [chrs]⟩
theorem Reach.step {s : ByteArray} {l : List Nat} {i : Nat} (h : Reach s l i) (hi : i < s.size) (ho : okB s i = true) : Reach s (l ++ [(decB s i).1]) (i + (decB s i).2) := by
  obtain ⟨f, hf, hl, e⟩ := h
  have hd := decB_bounds s i hi
  cases f with
  | zero => omega
  | succ f =>
    rw [chrsFrom, if_pos hi, if_pos ho] at e
    exact ⟨f, by omega, by simp; omega, by simpa using e⟩
theorem Reach.bad {s : ByteArray} {l : List Nat} {i : Nat} (h : Reach s l i) (hi : i < s.size) (ho : okB s i = false) : chrs s = (l, some i) := by
  obtain ⟨f, hf, hl, e⟩ := h
  cases f with
  | zero => omega
  | succ f =>
    rw [chrsFrom, if_pos hi, if_neg (by simp [ho])] at e
    simpa using e
theorem Reach.done {s : ByteArray} {l : List Nat} {i : Nat} (h : Reach s l i) (hi : ¬ i < s.size) : chrs s = (l, none) := by
  obtain ⟨f, hf, hl, e⟩ := h
  cases f with
  | zero => rw [chrsFrom] at e; simpa using e
  | succ f =>
    rw [chrsFrom, if_neg hi] at e
    simpa using e
end Go.Proofs.YtakcfgmibijdnaaGreatDoor

/- Queries' items: plain facts. -/
namespace Go.Proofs.YtakcfgmibijdnaaGreatDoor
open Go.RowKit

def okS (l : List UInt8) : Bool := (chrs (ofL l)).2.isNone
/-- The item of a part, or the error's kind and place. -/
def itemP (p : ByteArray) : Except (Nat × Nat) It :=
  match (told (cutN 61 p)).2 with
  | some i => .error (11, i)
  | none => match (told (cutV 61 p)).2 with
    | some i => .error (11, (cutN 61 p).size + 1 + i)
    | none => if okS (bytesT (cutN 61 p)) = true ∧ okS (bytesT (cutV 61 p)) = true then .ok ⟨ofL (bytesT (cutN 61 p)), ofL (bytesT (cutV 61 p)), cutH 61 p⟩ else .error (12, 0)
theorem itemP_bad1 {p : ByteArray} {i : Nat} (h : (told (cutN 61 p)).2 = some i) : itemP p = .error (11, i) := by unfold itemP; rw [h]
theorem itemP_bad2 {p : ByteArray} {i : Nat} (h0 : (told (cutN 61 p)).2 = none) (h : (told (cutV 61 p)).2 = some i) : itemP p = .error (11, (cutN 61 p).size + 1 + i) := by unfold itemP; rw [h0, h]
theorem itemP_utf {p : ByteArray} (h0 : (told (cutN 61 p)).2 = none) (h1 : (told (cutV 61 p)).2 = none) (h : ¬ (okS (bytesT (cutN 61 p)) = true ∧ okS (bytesT (cutV 61 p)) = true)) : itemP p = .error (12, 0) := by unfold itemP; rw [h0, h1]; exact if_neg h
theorem itemP_ok {p : ByteArray} (h0 : (told (cutN 61 p)).2 = none) (h1 : (told (cutV 61 p)).2 = none) (h : okS (bytesT (cutN 61 p)) = true ∧ okS (bytesT (cutV 61 p)) = true) : itemP p = .ok ⟨ofL (bytesT (cutN 61 p)), ofL (bytesT (cutV 61 p)), cutH 61 p⟩ := by unfold itemP; rw [h0, h1]; exact if_pos h
theorem itemP_kind {p : ByteArray} {k i : Nat} (h : itemP p = .error (k, i)) : k = 11 ∨ k = 12 := by
  unfold itemP at h
  split at h
  · cases h; exact .inl rfl
  · split at h
    · cases h; exact .inl rfl
    · split at h
      · cases h
      · cases h; exact .inr rfl

/-- What a part of a query gives. -/
def stepQ : StepG := fun p full => if p.size = 0 then none else if full = true then some (.error (15, 0)) else some (itemP p)
theorem stepQ_right : RightG stepQ where
  kind := by
    intro p b k i h
    unfold stepQ at h
    split at h
    · cases h
    · split at h
      · cases h; decide
      · have := itemP_kind (Option.some.inj h); omega
  none := by
    intro p b b' h
    unfold stepQ at h ⊢
    split at h
    · next h0 => rw [if_pos h0]
    · split at h <;> cases h
  full := by
    intro p x h
    unfold stepQ at h
    split at h
    · cases h
    · cases h
theorem stepQ_empty {p : ByteArray} {b : Bool} (h : p.size = 0) : stepQ p b = none := by unfold stepQ; rw [if_pos h]
theorem stepQ_many {p : ByteArray} (h : p.size ≠ 0) : stepQ p true = some (.error (15, 0)) := by unfold stepQ; rw [if_neg h, if_pos rfl]
theorem stepQ_item {p : ByteArray} (h : p.size ≠ 0) : stepQ p false = some (itemP p) := by unfold stepQ; rw [if_neg h, if_neg (by decide)]
def itemsQ (s : ByteArray) : List It × Nat × Nat := goG stepQ 256 (partsB 38 s) 0 []
end Go.Proofs.YtakcfgmibijdnaaGreatDoor

/- Parts put together by a mark. -/
namespace Go.Proofs.YtakcfgmibijdnaaGreatDoor

def joinA (c : UInt8) : List (List UInt8) → List UInt8
  | [] => []
  | [p] => p
  | p :: q :: r => p ++ c :: joinA c (q :: r)
theorem joinA_lib (c : UInt8) : ∀ l, Lib.join l [c] = joinA c l := by
  intro l
  induction l with
  | nil => rfl
  | cons p l ih =>
    cases l with
    | nil => simp [Lib.join, joinA, List.intercalate]
    | cons q r =>
      have e : Lib.join (p :: q :: r) [c] = p ++ c :: Lib.join (q :: r) [c] := by simp [Lib.join, List.intercalate, List.intersperse]
      rw [e, ih]
      rfl
theorem joinA_snoc (c : UInt8) (p : List UInt8) : ∀ l, l ≠ [] → joinA c (l ++ [p]) = joinA c l ++ c :: p := by
  intro l
  induction l with
  | nil => intro h; exact absurd rfl h
  | cons q l ih =>
    intro _
    cases l with
    | nil => rfl
    | cons r l =>
      show q ++ c :: joinA c ((r :: l) ++ [p]) = q ++ c :: joinA c (r :: l) ++ c :: p
      rw [ih (by simp)]
      simp
theorem split_join (c : UInt8) : ∀ l : List (List UInt8), l ≠ [] → (∀ p ∈ l, ∀ x ∈ p, x ≠ c) → splitL c (joinA c l) = l := by
  intro l
  induction l with
  | nil => intro h; exact absurd rfl h
  | cons p l ih =>
    intro _ h
    cases l with
    | nil => exact splitL_none c p (h p (by simp))
    | cons q l =>
      show splitL c (p ++ c :: joinA c (q :: l)) = _
      rw [splitL_cut c _ p (h p (by simp)), ih (by simp) fun y hy => h y (by simp [hy])]
theorem joinA_nil {c : UInt8} {l : List (List UInt8)} (h : ∀ p ∈ l, p ≠ []) : joinA c l = [] ↔ l = [] := by
  cases l with
  | nil => exact ⟨fun _ => rfl, fun _ => rfl⟩
  | cons p l =>
    refine ⟨fun e => ?_, fun e => by cases e⟩
    cases l with
    | nil => exact absurd e (h p (by simp))
    | cons q l =>
      have e' : p ++ c :: joinA c (q :: l) = [] := e
      simp at e'
theorem joinA_len (c : UInt8) (m : Nat) : ∀ l : List (List UInt8), (∀ p ∈ l, p.length ≤ m) → (joinA c l).length ≤ (m + 1) * l.length := by
  intro l
  induction l with
  | nil => intro _; exact Nat.zero_le _
  | cons p l ih =>
    intro h
    have h1 := h p (by simp)
    have h2 := ih fun y hy => h y (by simp [hy])
    have e : (m + 1) * (p :: l).length = (m + 1) * l.length + (m + 1) := by rw [List.length_cons, Nat.mul_succ]
    rw [e]
    cases l with
    | nil => show p.length ≤ _; omega
    | cons q l =>
      show (p ++ c :: joinA c (q :: l)).length ≤ _
      rw [List.length_append, List.length_cons]
      omega
end Go.Proofs.YtakcfgmibijdnaaGreatDoor

/- Items as a query, in plain words. -/
namespace Go.Proofs.YtakcfgmibijdnaaGreatDoor
open Go.RowKit

def encE0 (l : List UInt8) : List UInt8 := encL ⟨#[]⟩ l
theorem encC_facts (c : UInt8) : encC ⟨#[]⟩ c ≠ [] ∧ ∀ x ∈ encC ⟨#[]⟩ c, x ≠ 38 ∧ x ≠ 61 := by
  have : ∀ n : Fin 256, encC ⟨#[]⟩ (UInt8.ofNat n.1) ≠ [] ∧ ∀ x ∈ encC ⟨#[]⟩ (UInt8.ofNat n.1), x ≠ 38 ∧ x ≠ 61 := by decide +kernel
  have := this ⟨c.toNat, c.toNat_lt⟩
  simpa using this
theorem encE0_free {l : List UInt8} {x : UInt8} (h : x ∈ encE0 l) : x ≠ 38 ∧ x ≠ 61 := by
  obtain ⟨c, _, hx⟩ := List.mem_flatMap.1 h
  exact (encC_facts c).2 x hx
theorem encE0_nil {l : List UInt8} (h : encE0 l = []) : l = [] := by
  cases l with
  | nil => rfl
  | cons c l =>
    have h1 : encC ⟨#[]⟩ c ++ encE0 l = [] := h
    exact absurd (List.append_eq_nil_iff.1 h1).1 (encC_facts c).1
theorem encS_E0 (s : ByteArray) : encS ⟨#[]⟩ s = ofL (encE0 s.data.toList) := rfl
/-- An item's part of a query. -/
def partW (x : It) : List UInt8 := if x.has = true then encE0 x.name.data.toList ++ 61 :: encE0 x.value.data.toList else encE0 x.name.data.toList
theorem partW_yes {x : It} (h : x.has = true) : partW x = encE0 x.name.data.toList ++ 61 :: encE0 x.value.data.toList := by unfold partW; rw [if_pos h]
theorem partW_no {x : It} (h : x.has = false) : partW x = encE0 x.name.data.toList := by unfold partW; rw [if_neg (by rw [h]; decide)]
theorem partW_free {x : It} {c : UInt8} (h : c ∈ partW x) : c ≠ 38 := by
  cases hh : x.has with
  | true =>
    rw [partW_yes hh] at h
    rcases List.mem_append.1 h with h | h
    · exact (encE0_free h).1
    · rcases List.mem_cons.1 h with rfl | h
      · decide
      · exact (encE0_free h).1
  | false =>
    rw [partW_no hh] at h
    exact (encE0_free h).1
def partsW (l : List It) : List (List UInt8) := (l.map partW).filter fun p => !p.isEmpty
theorem partsW_snoc (l : List It) (x : It) : partsW (l ++ [x]) = if partW x = [] then partsW l else partsW l ++ [partW x] := by
  unfold partsW
  rw [List.map_append, List.filter_append]
  by_cases h : partW x = []
  · rw [if_pos h]; simp [h]
  · rw [if_neg h]
    have : (partW x).isEmpty = false := by simpa using h
    simp [this]
theorem partsW_ne {l : List It} {p : List UInt8} (h : p ∈ partsW l) : p ≠ [] := by
  have := (List.mem_filter.1 h).2
  simpa using this
theorem partsW_len (l : List It) : (partsW l).length ≤ l.length := by
  unfold partsW
  exact Nat.le_trans (List.length_filter_le _ _) (by simp)
/-- A query of items. -/
def textW (l : List It) : List UInt8 := joinA 38 (partsW l)
/-- Whether an item is read as it was written. -/
def goodI (x : It) : Prop := okS x.name.data.toList = true ∧ okS x.value.data.toList = true ∧ (x.has = false → x.name.data.toList ≠ []) ∧ (x.has = false → x.value.data.toList = [])
theorem partW_ne {x : It} (h : goodI x) : partW x ≠ [] := by
  intro e
  cases hh : x.has with
  | true => rw [partW_yes hh] at e; simp at e
  | false => rw [partW_no hh] at e; exact h.2.2.1 hh (encE0_nil e)
theorem item_back {x : It} (h : goodI x) : itemP (ofL (partW x)) = .ok x := by
  obtain ⟨h1, h2, h3, h4⟩ := h
  have hn := told_enc ⟨#[]⟩ x.name.data.toList
  have hv := told_enc ⟨#[]⟩ x.value.data.toList
  cases hh : x.has with
  | true =>
    have hc : cutL 61 (ofL (partW x)).data.toList = (encE0 x.name.data.toList, encE0 x.value.data.toList, true) := by
      rw [ofL_data, partW_yes hh]
      exact cutL_cut 61 _ _ fun y hy => (encE0_free hy).2
    have e1 : cutN 61 (ofL (partW x)) = ofL (encE0 x.name.data.toList) := by unfold cutN; rw [hc]
    have e2 : cutV 61 (ofL (partW x)) = ofL (encE0 x.value.data.toList) := by unfold cutV; rw [hc]
    have e3 : cutH 61 (ofL (partW x)) = true := by unfold cutH; rw [hc]
    have := itemP_ok (p := ofL (partW x)) (by rw [e1]; exact hn.1) (by rw [e2]; exact hv.1) (by
      rw [e1, e2]
      exact ⟨by rw [show bytesT (ofL (encE0 x.name.data.toList)) = _ from hn.2]; exact h1, by rw [show bytesT (ofL (encE0 x.value.data.toList)) = _ from hv.2]; exact h2⟩)
    rw [this, e1, e2, e3, show bytesT (ofL (encE0 x.name.data.toList)) = _ from hn.2, show bytesT (ofL (encE0 x.value.data.toList)) = _ from hv.2, ofL_list, ofL_list, ← hh]
  | false =>
    have hc : cutL 61 (ofL (partW x)).data.toList = (encE0 x.name.data.toList, [], false) := by
      rw [ofL_data, partW_no hh]
      exact cutL_none 61 _ fun y hy => (encE0_free hy).2
    have e1 : cutN 61 (ofL (partW x)) = ofL (encE0 x.name.data.toList) := by unfold cutN; rw [hc]
    have e2 : cutV 61 (ofL (partW x)) = ofL (encE0 x.value.data.toList) := by unfold cutV; rw [hc, h4 hh]; rfl
    have e3 : cutH 61 (ofL (partW x)) = false := by unfold cutH; rw [hc]
    have := itemP_ok (p := ofL (partW x)) (by rw [e1]; exact hn.1) (by rw [e2]; exact hv.1) (by
      rw [e1, e2]
      exact ⟨by rw [show bytesT (ofL (encE0 x.name.data.toList)) = _ from hn.2]; exact h1, by rw [show bytesT (ofL (encE0 x.value.data.toList)) = _ from hv.2]; exact h2⟩)
    rw [this, e1, e2, e3, show bytesT (ofL (encE0 x.name.data.toList)) = _ from hn.2, show bytesT (ofL (encE0 x.value.data.toList)) = _ from hv.2, ofL_list, ofL_list, ← hh]
theorem items_go : ∀ (l : List It) (at_ : Nat) (acc : List It), (∀ x ∈ l, goodI x) → acc.length + l.length ≤ 256 → goG stepQ 256 ((l.map partW).map ofL) at_ acc = (acc ++ l, 0, 0) := by
  intro l
  induction l with
  | nil => intro at_ acc _ _; show (acc, 0, 0) = _; rw [List.append_nil]
  | cons x l ih =>
    intro at_ acc hg hl
    have hx := hg x (by simp)
    simp only [List.length_cons] at hl
    have h0 : (ofL (partW x)).size ≠ 0 := by rw [ofL_size]; intro e; exact partW_ne hx (List.eq_nil_of_length_eq_zero e)
    rw [List.map_cons, List.map_cons, goG_ok (x := x) (by rw [decide_eq_false (by omega), stepQ_item h0, item_back hx]), ih _ _ (fun y hy => hg y (by simp [hy])) (by simp; omega)]
    simp
/-- Items of characters' bytes are read as they were written. -/
theorem items_back {l : List It} (hg : ∀ x ∈ l, goodI x) (hl : l.length ≤ 256) : itemsQ (ofL (textW l)) = (l, 0, 0) := by
  unfold itemsQ
  cases l with
  | nil => decide +kernel
  | cons x l =>
    have hp : partsW (x :: l) = (x :: l).map partW := by
      unfold partsW
      rw [List.filter_eq_self]
      intro p hp
      obtain ⟨y, hy, rfl⟩ := List.mem_map.1 hp
      simpa using partW_ne (hg y hy)
    have hs : partsB 38 (ofL (textW (x :: l))) = ((x :: l).map partW).map ofL := by
      unfold partsB textW
      rw [ofL_data, hp, split_join 38 _ (by simp) fun p hp c hc => ?_]
      obtain ⟨y, _, rfl⟩ := List.mem_map.1 hp
      exact partW_free hc
    rw [hs, items_go _ _ _ hg (by simpa using hl)]
    rfl
end Go.Proofs.YtakcfgmibijdnaaGreatDoor

/- Rows of strings of a call's own; two rows of strings held against each other; is a string among them. -/
namespace Go.Proofs.YtakcfgmibijdnaaGreatDoor
open Go.RowKit

theorem info_strS : (Tryz.prog.info? 9).map (fun i => (i.zero, i.size, i.bytes)) = some (some (.string ByteArray.empty), 1, 16) := by kernel_rfl
def OwnS (w : World) (base : Nat) (v : Value) (l : List ByteArray) : Prop := w.ownsRow base 9 1 v l.length (l.map strV)
theorem OwnS.below {w w' : World} {base : Nat} {v : Value} {l : List ByteArray} (h : OwnS w base v l) (hb : Below w.heap.size w w') : OwnS w' base v l := ownsRow_below h hb
theorem OwnS.drewN {w : World} {base : Nat} {v : Value} {l : List ByteArray} (h : OwnS w base v l) (m : Nat) : OwnS (w.drewN m) base v l := h
theorem OwnS.nil (w : World) (base : Nat) : OwnS w base (.slice none 0 0) [] := World.ownsRow_nil _ _ _ _
theorem OwnS.lit0 (w : World) (base : Nat) (hb : base ≤ w.heap.size) : OwnS (w.alloc (.cells #[] 9)) base (.slice (some ⟨w.heap.size, 0, none⟩) 0 0) [] :=
  World.ownsRow_lit w #[] 0 hb (Nat.zero_le _) rfl
theorem OwnS.under {w0 w w' : World} {base : Nat} {v : Value} {l : List ByteArray} (h : OwnS w base v l) (hb : Below w0.heap.size w0 w) (hB : w0.heap.size ≤ base) (hg : w.grownBy w' v.ownBlock) : Below w0.heap.size w0 w' :=
  hb.grown hg hb.size (fun j hj => Nat.le_trans hB (World.ownsRow.lt h j hj).1)
theorem OwnS.sl {w : World} {base : Nat} {v : Value} {l : List ByteArray} (h : OwnS w base v l) : ∃ a c, v = .slice a l.length c ∧ l.length ≤ c ∧ c ≤ maxLen ∧ RowSl w a (l.map strV) := by
  have := row_sl h (by simp)
  simpa using this
theorem wpList_app_str {w : World} {ops : Array Oper} {rest : List Oper} {o : Oper} {a : Act} {Q : Exit → Act → World → Prop} (hgd : o.guard = none) (s x : Operand) (ho : o.op = .call { callee := .builtin .append, args := #[s, x], argTypes := #[32, 32] })
    (base : Nat) (v : Value) (l : List ByteArray) (hs : a.eval s = v) (hown : OwnS w base v l) (g c : Nat) (p : ByteArray) (hx : a.eval x = .slice (some ⟨g, 0, none⟩) 1 c) (hb : w.heap[g]? = some (.cells #[.string p] 9 (0, 0)))
    (hl : l.length ≤ 1073741824) (hbase : base ≤ w.heap.size)
    (h : ∀ v' w', OwnS w' base v' (l ++ [p]) → w.grownBy w' v.ownBlock → wpList Tryz.prog ops Q rest (a.put o.dst v') w') : wpList Tryz.prog ops Q (o :: rest) a w := by
  obtain ⟨i, hi, hz, hsize, hby⟩ := info_parts info_strS
  refine wpList_append_own _ hgd s x 32 ho base 9 i _ 1 16 Tryz.underlying32 hi hz hsize hby rfl (by decide) v _ _ hs hown _ 1 c [strV p] hx rfl ?_ ?_ (by unfold maxLen; omega) (by omega) hbase ?_
  · intro j u hj
    match j, hj with
    | 0, hj =>
      simp at hj; subst hj
      rw [Addr.add_lit, Nat.zero_add, cell_of_row w g 0 _ _ _ hb]
      rfl
  · intro u hu; simp at hu; subst hu; rfl
  · intro v' w' h1 h2 _
    refine h v' w' ?_ h2
    unfold OwnS
    rw [List.length_append, List.map_append]
    exact h1
theorem RowSl.strs {w : World} {a : Option Addr} {l : List ByteArray} (h : RowSl w a (l.map strV)) (hne : 0 < l.length) : ∃ b, a = some ⟨b, 0, none⟩ ∧ b < w.heap.size ∧ ∀ j, j < l.length → w.cell? ⟨b, 0 + j, none⟩ = some (.string (l.getD j ByteArray.empty)) := by
  obtain ⟨x, hx⟩ : ∃ x, l[0]? = some x := ⟨_, List.getElem?_eq_getElem hne⟩
  obtain ⟨b, rfl, hb, _⟩ := h 0 (strV x) (by rw [List.getElem?_map, hx]; rfl)
  refine ⟨b, rfl, hb, fun j hj => ?_⟩
  obtain ⟨b', e, _, hc⟩ := h j (strV l[j]) (by rw [List.getElem?_map, List.getElem?_eq_getElem hj]; rfl)
  cases e
  rw [Nat.zero_add, hc]
  simp [strV, List.getD, hj]
set_option maxHeartbeats 1600000 in
theorem ref_SameR (a1 a2 : Option Addr) (c1 c2 : Nat) (l1 l2 : List ByteArray) (w : World) (h1 : RowSl w a1 (l1.map strV)) (h2 : RowSl w a2 (l2.map strV)) (hn1 : l1.length ≤ 16777216) (hn2 : l2.length ≤ 16777216) :
    Calls Tryz.prog 14 #[.slice a1 l1.length c1, .slice a2 l2.length c2] w fun e w' => e = .returned (.bool (decide (l1 = l2))) ∧ ∃ m, w.drewN m = w' := by
  by_cases hn : l1.length = l2.length
  · by_cases h0 : 0 < l1.length
    · obtain ⟨b1, rfl, _, k1⟩ := h1.strs h0
      obtain ⟨b2, rfl, _, k2⟩ := h2.strs (by omega)
      exact ref_Same b1 0 l1.length c1 b2 0 l2.length c2 l1 l2 w ⟨rfl, k1⟩ ⟨rfl, k2⟩ (by omega) (by omega)
    · obtain rfl : l1 = [] := List.eq_nil_of_length_eq_zero (by omega)
      obtain rfl : l2 = [] := List.eq_nil_of_length_eq_zero (by omega)
      show Calls Tryz.prog 14 #[.slice a1 0 c1, .slice a2 0 c2] w fun e w' => e = .returned (.bool true) ∧ ∃ m, w.drewN m = w'
      clear h1 h2 hn1 hn2 hn h0
      go_enter Tryz.func14, Tryz.ntmps14
      go_wp2_with fail
      go_loopw [5] (fun i wr => i = .int .i64 0 ∧ w = wr) (fun _ _ => 0)
      case atStart => exact ⟨rfl, rfl⟩
      case round =>
        obtain ⟨rfl, rfl⟩ := hrel
        go_wp2_with fail
        go_ret
        exact ⟨rfl, 0, rfl⟩
  · have e1 : ((l1.length : Int) != (l2.length : Int)) = true := by simp; omega
    have hne : l1 ≠ l2 := fun h => hn (by rw [h])
    have HNE := Lib.hid hne
    clear hne hn h1 h2
    go_enter Tryz.func14, Tryz.ntmps14
    go_wp2_with fail
    go_ret
    exact ⟨ret_bool (decide_eq_false HNE.out).symm, 0, rfl⟩
end Go.Proofs.YtakcfgmibijdnaaGreatDoor

/- An item in a variable of a function's own; given back out of it. -/
namespace Go.Proofs.YtakcfgmibijdnaaGreatDoor
open Go.RowKit

theorem size_item : (Tryz.prog.info? 47).map (·.size) = some 3 := by kernel_rfl
def itemA (n v : ByteArray) (h : Bool) : Array Value := #[.string n, .string v, .bool h]
/-- In block g lies an item. -/
def ItemAt (w : World) (g : Nat) (n v : ByteArray) (h : Bool) : Prop := w.heap[g]? = some (.cells #[.string n, .string v, .bool h] 47 (0, 0))
section
variable {w w' : World} {g : Nat} {n v : ByteArray} {b : Bool}
theorem ItemAt.new : ItemAt (w.alloc (.cells #[.string n, .string v, .bool b] 47)) w.heap.size n v b := heap_alloc_new w _
theorem ItemAt.lt (h : ItemAt w g n v b) : g < w.heap.size := lt_of_block h
theorem ItemAt.below (h : ItemAt w g n v b) (hb : Below w.heap.size w w') : ItemAt w' g n v b := (hb.block g h.lt).trans h
theorem ItemAt.below' {B : Nat} (h : ItemAt w g n v b) (hb : Below B w w') (hB : g < B) : ItemAt w' g n v b := (hb.block g hB).trans h
theorem ItemAt.drewN (h : ItemAt w g n v b) (m : Nat) : ItemAt (w.drewN m) g n v b := h
theorem ItemAt.set (h : ItemAt w g n v b) (n' v' : ByteArray) (b' : Bool) : ItemAt (w.setRow g #[.string n', .string v', .bool b']) g n' v' b' := setRow_heap w g _ _ _ _ h
theorem ItemAt.setHas (h : ItemAt w g n v b) (b' : Bool) : ItemAt (w.setCell ⟨g, 2, none⟩ (.bool b')) g n v b' := by
  unfold ItemAt at h ⊢; simp [World.setCell, Array.getElem?_modify, h]
theorem ItemAt.setValue (h : ItemAt w g n v b) (v' : ByteArray) : ItemAt (w.setCell ⟨g, 1, none⟩ (.string v')) g n v' b := by
  unfold ItemAt at h ⊢; simp [World.setCell, Array.getElem?_modify, h]
theorem ItemAt.setName (h : ItemAt w g n v b) (n' : ByteArray) : ItemAt (w.setCell ⟨g, 0, none⟩ (.string n')) g n' v b := by
  unfold ItemAt at h ⊢; simp [World.setCell, Array.getElem?_modify, h]
theorem ItemAt.setOther (h : ItemAt w g n v b) {q : Nat} (hq : q ≠ g) (j : Nat) (u : Value) : ItemAt (w.setCell ⟨q, j, none⟩ u) g n v b := (Below.heap_setCell w ⟨q, j, none⟩ u g (fun e => hq e.symm)).trans h
theorem ItemAt.frozen (h : ItemAt w g n v b) (j : Nat) : w.frozen? ⟨g, j, none⟩ = false := by
  unfold ItemAt at h; simp [World.frozen?, h]
theorem ItemAt.load (h : ItemAt w g n v b) : (loadVar 47 ⟨g, 0, none⟩).run Tryz.prog w = .ok (.agg #[.string n, .string v, .bool b]) w :=
  run_loadVar_row w g _ _ _ _ _ h Tryz.underlying47 rfl (by rw [size_item]; rfl)
theorem ItemAt.cells (h : ItemAt w g n v b) : w.cell? ⟨g, 0, none⟩ = some (.string n) ∧ w.cell? ⟨g, 1, none⟩ = some (.string v) ∧ w.cell? ⟨g, 2, none⟩ = some (.bool b) := by
  unfold ItemAt at h
  refine ⟨?_, ?_, ?_⟩
  · rw [cell_of_row w g 0 _ _ _ h]; rfl
  · rw [cell_of_row w g 1 _ _ _ h]; rfl
  · rw [cell_of_row w g 2 _ _ _ h]; rfl
end
theorem below_setRowI {B : Nat} {a w : World} (h : Below B a w) {g : Nat} (hg : B ≤ g) (cs : Array Value) : Below B a (w.setRow g cs) :=
  ⟨h.os, h.tape, h.output, by simpa using h.size, fun k hk => (setRow_other w g k cs (by omega)).trans (h.block k hk)⟩
theorem FaultIs.setItem {w : World} {x : Value} {k i : Int} {m : Value} {g : Nat} {n v : ByteArray} {b : Bool} (h : FaultIs w x k i m) (hg : ItemAt w g n v b) (ds : Array Value) : FaultIs (w.setRow g ds) x k i m := by
  obtain ⟨q, rfl, hh⟩ := h
  have hne : q ≠ g := by
    rintro rfl
    unfold ItemAt at hg
    rw [hh] at hg
    injection hg with this
    injection this with h1 h2
    injection h1 with h3
    injection h3 with h4
    cases h4
  exact ⟨q, rfl, (setRow_other w g q ds hne).trans hh⟩
section
variable {fn : Func} {p u : Tmp} {tmps : Array Value} {w : World} {g : Nat} {n v : ByteArray} {b : Bool}
theorem results_item (h : fn.results = #[.cell p 47, .tmp u]) (hp : tmps.getD p undef = .pointer (some ⟨g, 0, none⟩)) (hg : ItemAt w g n v b) :
    (results fn tmps).run Tryz.prog w = .ok (.tuple #[.agg #[.string n, .string v, .bool b], tmps.getD u undef]) w := by
  rw [results_cell_tmp h, hp]
  simp [asAddr, Result.andThen, hg.load]
end
section
variable {w : World} {ops : Array Oper} {rest : List Oper} {o : Oper} {a : Act} {Q : Exit → Act → World → Prop}
theorem all_item (n v : ByteArray) (b : Bool) : (#[Value.string n, .string v, .bool b] : Array Value).all (·.oneCell') = true := by simp [Value.oneCell']
/-- An item is stored into a variable of the function's own. -/
theorem wpList_store_item (hgd : o.guard = none) (x y : Operand) (ho : o.op = .store 47 x y) (g : Nat) (n v : ByteArray) (b : Bool) (hx : a.eval x = .pointer (some ⟨g, 0, none⟩)) (hy : a.eval y = .agg #[.string n, .string v, .bool b]) (n0 v0 : ByteArray) (b0 : Bool) (hg : ItemAt w g n0 v0 b0)
    (h : ItemAt (w.setRow g #[.string n, .string v, .bool b]) g n v b → wpList Tryz.prog ops Q rest (a.put o.dst undef) (w.setRow g #[.string n, .string v, .bool b])) : wpList Tryz.prog ops Q (o :: rest) a w :=
  wpList_store_row hgd _ x y ho g _ hx hy _ _ hg (by rw [size_item]; rfl) rfl (all_item n v b) (h (hg.set _ _ _))
end
end Go.Proofs.YtakcfgmibijdnaaGreatDoor
