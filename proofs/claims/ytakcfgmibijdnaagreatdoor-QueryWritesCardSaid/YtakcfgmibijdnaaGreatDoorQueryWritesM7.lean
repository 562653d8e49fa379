/- A list cut at a mark: plain facts, in the forms that strings.Split and the reference's parts have. -/
import Derived.Lib.SplitLaws
import Derived.Lib.IndexBytes
import Derived.Lib.IndexLaws
import Derived.Test.YtakcfgmibijdnaaGreatDoorQueryWritesM6
import Derived.Test.YtakcfgmibijdnaaGreatDoorQueryWritesM4
import Derived.Test.YtakcfgmibijdnaaGreatDoorQueryWritesM1
import Derived.Lib.DecodeNEq
import Derived.Shelf.Unicode.DecodeSlow
import Derived.Test.YtakcfgmibijdnaaGreatDoorQueryWritesM2
import Derived.Lib.Join

namespace Go.Proofs.YtakcfgmibijdnaaGreatDoor

def splitL (c : UInt8) : List UInt8 → List (List UInt8)
  | [] => [[]]
  | x :: l => if x = c then [] :: splitL c l else match splitL c l with | [] => [[x]] | p :: ps => (x :: p) :: ps
theorem splitL_none (c : UInt8) : ∀ (a : List UInt8), (∀ x ∈ a, x ≠ c) → splitL c a = [a]
  | [], _ => rfl
  | x :: a, h => by
    have := splitL_none c a (fun y hy => h y (by simp [hy]))
    rw [splitL, if_neg (h x (by simp)), this]
theorem splitL_cut (c : UInt8) (b : List UInt8) : ∀ (a : List UInt8), (∀ x ∈ a, x ≠ c) → splitL c (a ++ c :: b) = a :: splitL c b
  | [], _ => by simp [splitL]
  | x :: a, h => by
    have := splitL_cut c b a (fun y hy => h y (by simp [hy]))
    rw [List.cons_append, splitL, if_neg (h x (by simp)), this]
theorem splitL_ne (c : UInt8) (l : List UInt8) : splitL c l ≠ [] := by
  cases l with
  | nil => simp [splitL]
  | cons x l =>
    rw [splitL]
    split
    · simp
    · split <;> simp
/-- A list without the mark, or the part ahead of the first one. -/
theorem first_cut (c : UInt8) : ∀ (l : List UInt8), (∀ x ∈ l, x ≠ c) ∨ ∃ a b, l = a ++ c :: b ∧ ∀ x ∈ a, x ≠ c
  | [] => .inl (by simp)
  | x :: l => by
    by_cases hx : x = c
    · exact .inr ⟨[], l, by simp [hx], by simp⟩
    · rcases first_cut c l with h | ⟨a, b, e, h⟩
      · exact .inl (by intro y hy; simp at hy; rcases hy with rfl | hy; exact hx; exact h y hy)
      · exact .inr ⟨x :: a, b, by simp [e], by intro y hy; simp at hy; rcases hy with rfl | hy; exact hx; exact h y hy⟩
theorem splitL_app (c : UInt8) (b : List UInt8) : ∀ (n : Nat) (a : List UInt8), a.length ≤ n → splitL c (a ++ c :: b) = splitL c a ++ splitL c b := by
  intro n
  induction n with
  | zero =>
    intro a h
    have : a = [] := List.eq_nil_of_length_eq_zero (by omega)
    subst this
    simp [splitL]
  | succ n ih =>
    intro a h
    rcases first_cut c a with h1 | ⟨x, y, e, h1⟩
    · rw [splitL_cut c b a h1, splitL_none c a h1]; rfl
    · subst e
      rw [List.append_assoc, List.cons_append, splitL_cut c _ x h1, ih y (by simp at h; omega), splitL_cut c _ x h1]
      rfl
theorem splitL_len (c : UInt8) : ∀ (n : Nat) (l : List UInt8), l.length ≤ n → ((splitL c l).map List.length).sum + (splitL c l).length = l.length + 1 := by
  intro n
  induction n with
  | zero =>
    intro l h
    have : l = [] := List.eq_nil_of_length_eq_zero (by omega)
    subst this
    simp [splitL]
  | succ n ih =>
    intro l h
    rcases first_cut c l with h1 | ⟨x, y, e, h1⟩
    · rw [splitL_none c l h1]; simp
    · subst e
      have := ih y (by simp at h; omega)
      rw [splitL_cut c _ x h1]
      simp only [List.map_cons, List.sum_cons, List.length_cons, List.length_append]
      omega
theorem split_index {c : UInt8} {a b : List UInt8} (h : ∀ x ∈ a, x ≠ c) : Lib.index (a ++ c :: b) [c] = (a.length : Int) := by
  rw [Lib.index_one]
  induction a with
  | nil => simp [Lib.indexByte]
  | cons x a ih =>
    have := ih (fun y hy => h y (by simp [hy]))
    rw [List.cons_append, Lib.indexByte, this]
    have hx := h x (by simp)
    simp [hx]
theorem split_index_none {c : UInt8} {a : List UInt8} (h : ∀ x ∈ a, x ≠ c) : Lib.index a [c] = -1 := by
  rw [Lib.index_one]
  induction a with
  | nil => simp [Lib.indexByte]
  | cons x a ih =>
    have := ih (fun y hy => h y (by simp [hy]))
    rw [Lib.indexByte, this]
    have hx := h x (by simp)
    simp [hx]
theorem splitK_is (c : UInt8) : ∀ (n : Nat) (l : List UInt8), l.length ≤ n → Lib.splitK [c] 0 (Lib.count l [c]) l = splitL c l := by
  intro n
  induction n with
  | zero =>
    intro l h
    have : l = [] := List.eq_nil_of_length_eq_zero (by omega)
    subst this
    rw [Lib.count_one]
    rfl
  | succ n ih =>
    intro l h
    rcases first_cut c l with h1 | ⟨x, y, e, h1⟩
    · have h0 : l.count c = 0 := List.count_eq_zero.2 (fun hm => h1 c hm rfl)
      rw [Lib.count_one, h0, splitL_none c l h1]; rfl
    · have hi := split_index (b := y) h1
      have h0 : x.count c = 0 := List.count_eq_zero.2 (fun hm => h1 c hm rfl)
      subst e
      have hc : Lib.count (x ++ c :: y) [c] = Lib.count y [c] + 1 := by
        rw [Lib.count_one, Lib.count_one, List.count_append, h0, List.count_cons_self]; omega
      have hy := ih y (by simp at h; omega)
      rw [hc, Lib.splitK, hi, splitL_cut c _ x h1, ← hy]
      have : ¬ ((x.length : Int) == -1) = true := by simp
      rw [if_neg this]
      simp
theorem splitB_is (c : UInt8) (s : ByteArray) : (Lib.splitB ⟨#[c]⟩ 0 (Lib.countB s ⟨#[c]⟩) s).map (·.data.toList) = splitL c s.data.toList := by
  rw [Lib.splitB_data]
  exact splitK_is c _ _ (Nat.le_refl _)
end Go.Proofs.YtakcfgmibijdnaaGreatDoor

/- Items out of parts, one behind the other, as long as nothing is wrong: plain facts. -/
namespace Go.Proofs.YtakcfgmibijdnaaGreatDoor

/-- What a part gives (are there as many items as may be?): nothing, an error's kind and place, or an item. -/
abbrev StepG := ByteArray → Bool → Option (Except (Nat × Nat) It)
structure RightG (g : StepG) : Prop where
  kind : ∀ p b k i, g p b = some (.error (k, i)) → k ≠ 0
  none : ∀ p b b', g p b = none → g p b' = none
  full : ∀ p x, g p true ≠ some (.ok x)
section
variable (g : StepG) (most : Nat)
/-- Parts' items behind those that there are, the error's kind, its place. -/
def goG : List ByteArray → Nat → List It → List It × Nat × Nat
  | [], _, acc => (acc, 0, 0)
  | p :: ps, at_, acc => match g p (decide (acc.length = most)) with
    | none => goG ps (at_ + p.size + 1) acc
    | some (.error (k, i)) => ([], k, at_ + i)
    | some (.ok x) => goG ps (at_ + p.size + 1) (acc ++ [x])
variable {g most} {p : ByteArray} {ps : List ByteArray} {at_ k i : Nat} {acc : List It} {x : It}
theorem goG_nil : goG g most [] at_ acc = (acc, 0, 0) := rfl
theorem goG_none (h : g p (decide (acc.length = most)) = none) : goG g most (p :: ps) at_ acc = goG g most ps (at_ + p.size + 1) acc := by rw [goG, h]
theorem goG_bad (h : g p (decide (acc.length = most)) = some (.error (k, i))) : goG g most (p :: ps) at_ acc = ([], k, at_ + i) := by rw [goG, h]
theorem goG_ok (h : g p (decide (acc.length = most)) = some (.ok x)) : goG g most (p :: ps) at_ acc = goG g most ps (at_ + p.size + 1) (acc ++ [x]) := by rw [goG, h]
end
/-- A part's three ways. -/
theorem goG_ways (g : StepG) (most : Nat) (p : ByteArray) (acc : List It) : g p (decide (acc.length = most)) = none ∨ (∃ k i, g p (decide (acc.length = most)) = some (.error (k, i))) ∨ ∃ x, g p (decide (acc.length = most)) = some (.ok x) := by
  cases g p (decide (acc.length = most)) with
  | none => exact .inl rfl
  | some r => cases r with
    | error e => exact .inr (.inl ⟨e.1, e.2, rfl⟩)
    | ok x => exact .inr (.inr ⟨x, rfl⟩)
section
variable {g : StepG} {most : Nat} (hg : RightG g)
include hg
theorem goG_len : ∀ (ps : List ByteArray) (at_ : Nat) (acc : List It), acc.length ≤ most → (goG g most ps at_ acc).1.length ≤ most
  | [], _, acc, h => h
  | p :: ps, at_, acc, h => by
    rcases goG_ways g most p acc with h1 | ⟨k, i, h1⟩ | ⟨x, h1⟩
    · rw [goG_none h1]; exact goG_len ps _ _ h
    · rw [goG_bad h1]; simp
    · rw [goG_ok h1]
      refine goG_len ps _ _ ?_
      have : acc.length ≠ most := fun e => by rw [decide_eq_true e] at h1; exact hg.full p x h1
      simp; omega
omit hg in
theorem goG_empty : ∀ (ps : List ByteArray) (at_ : Nat) (acc : List It), (goG g most ps at_ acc).2.1 ≠ 0 → (goG g most ps at_ acc).1 = []
  | [], _, acc, h => absurd rfl h
  | p :: ps, at_, acc, h => by
    rcases goG_ways g most p acc with h1 | ⟨k, i, h1⟩ | ⟨x, h1⟩
    · rw [goG_none h1] at h ⊢; exact goG_empty ps _ _ h
    · rw [goG_bad h1]
    · rw [goG_ok h1] at h ⊢; exact goG_empty ps _ _ h
theorem goG_zero : ∀ (ps : List ByteArray) (at_ : Nat) (acc : List It), (goG g most ps at_ acc).2.1 = 0 → (goG g most ps at_ acc).2.2 = 0
  | [], _, acc, h => rfl
  | p :: ps, at_, acc, h => by
    rcases goG_ways g most p acc with h1 | ⟨k, i, h1⟩ | ⟨x, h1⟩
    · rw [goG_none h1] at h ⊢; exact goG_zero ps _ _ h
    · rw [goG_bad h1] at h; exact absurd h (hg.kind _ _ _ _ h1)
    · rw [goG_ok h1] at h ⊢; exact goG_zero ps _ _ h
theorem goG_grow : ∀ (ps : List ByteArray) (at_ : Nat) (acc : List It), (goG g most ps at_ acc).2.1 = 0 → ∃ l, (goG g most ps at_ acc).1 = acc ++ l
  | [], _, acc, _ => ⟨[], by rw [goG_nil]; simp⟩
  | p :: ps, at_, acc, h => by
    rcases goG_ways g most p acc with h1 | ⟨k, i, h1⟩ | ⟨x, h1⟩
    · rw [goG_none h1] at h ⊢; exact goG_grow ps _ _ h
    · rw [goG_bad h1] at h; exact absurd h (hg.kind _ _ _ _ h1)
    · rw [goG_ok h1] at h ⊢
      obtain ⟨l, e⟩ := goG_grow ps _ _ h
      exact ⟨x :: l, by rw [e]; simp⟩
theorem goG_app : ∀ (ps qs : List ByteArray) (at_ : Nat) (acc : List It), goG g most (ps ++ qs) at_ acc = if (goG g most ps at_ acc).2.1 = 0 then goG g most qs (at_ + (ps.map fun p => p.size + 1).sum) (goG g most ps at_ acc).1 else goG g most ps at_ acc
  | [], qs, at_, acc => by simp [goG_nil]
  | p :: ps, qs, at_, acc => by
    rw [List.cons_append]
    have e : at_ + ((p :: ps).map fun p => p.size + 1).sum = at_ + p.size + 1 + (ps.map fun p => p.size + 1).sum := by rw [List.map_cons, List.sum_cons]; omega
    rcases goG_ways g most p acc with h1 | ⟨k, i, h1⟩ | ⟨x, h1⟩
    · rw [goG_none h1, goG_none h1, goG_app ps qs, e]
    · rw [goG_bad h1, goG_bad h1, if_neg (hg.kind _ _ _ _ h1)]
    · rw [goG_ok h1, goG_ok h1, goG_app ps qs, e]
/-- From another place, behind other items: the same items. -/
theorem goG_move : ∀ (ps : List ByteArray) (a1 a2 : Nat) (x acc : List It), (goG g most ps a1 acc).2.1 = 0 → x.length + (goG g most ps a1 acc).1.length ≤ most → goG g most ps a2 (x ++ acc) = (x ++ (goG g most ps a1 acc).1, 0, 0)
  | [], a1, a2, x, acc, _, _ => rfl
  | p :: ps, a1, a2, x, acc, h, h2 => by
    rcases goG_ways g most p acc with h1 | ⟨k, i, h1⟩ | ⟨y, h1⟩
    · rw [goG_none h1] at h h2 ⊢
      rw [goG_none (hg.none _ _ _ h1)]
      exact goG_move ps _ _ x acc h h2
    · rw [goG_bad h1] at h; exact absurd h (hg.kind _ _ _ _ h1)
    · rw [goG_ok h1] at h h2 ⊢
      obtain ⟨l, e⟩ := goG_grow hg ps _ _ h
      have hl := congrArg List.length e
      simp only [List.length_append, List.length_cons, List.length_nil] at hl
      have h3 : acc.length ≠ most := fun e => by rw [decide_eq_true e] at h1; exact hg.full p y h1
      have h4 : (x ++ acc).length ≠ most := by simp; omega
      rw [decide_eq_false h3] at h1
      have h5 : g p (decide ((x ++ acc).length = most)) = some (.ok y) := by rw [decide_eq_false h4]; exact h1
      rw [goG_ok h5, List.append_assoc]
      exact goG_move ps _ _ x (acc ++ [y]) h h2
end
/-- The parts of a text between marks. -/
def partsB (c : UInt8) (s : ByteArray) : List ByteArray := (splitL c s.data.toList).map ofL
theorem partsB_app (c : UInt8) (s t : ByteArray) : partsB c (s ++ ofL [c] ++ t) = partsB c s ++ partsB c t := by
  unfold partsB
  rw [← List.map_append, ← splitL_app c t.data.toList s.data.toList.length s.data.toList (Nat.le_refl _)]
  congr 2
  rw [ByteArray.data_append, ByteArray.data_append]
  simp [ofL]
section
variable {g : StepG} {most : Nat} (hg : RightG g)
include hg
theorem goG_both (c : UInt8) (s t : ByteArray) (h1 : (goG g most (partsB c s) 0 []).2.1 = 0) (h2 : (goG g most (partsB c t) 0 []).2.1 = 0) (h3 : (goG g most (partsB c s) 0 []).1.length + (goG g most (partsB c t) 0 []).1.length ≤ most) :
    goG g most (partsB c (s ++ ofL [c] ++ t)) 0 [] = ((goG g most (partsB c s) 0 []).1 ++ (goG g most (partsB c t) 0 []).1, 0, 0) := by
  rw [partsB_app, goG_app hg, if_pos h1]
  have := goG_move hg (partsB c t) 0 (0 + ((partsB c s).map fun p => p.size + 1).sum) (goG g most (partsB c s) 0 []).1 [] h2 h3
  rw [List.append_nil] at this
  exact this
theorem goG_first (c : UInt8) (s t : ByteArray) (h1 : (goG g most (partsB c s) 0 []).2.1 ≠ 0) : goG g most (partsB c (s ++ ofL [c] ++ t)) 0 [] = goG g most (partsB c s) 0 [] := by
  rw [partsB_app, goG_app hg, if_neg h1]
end
end Go.Proofs.YtakcfgmibijdnaaGreatDoor

/- A list cut at a mark once: plain facts. -/
namespace Go.Proofs.YtakcfgmibijdnaaGreatDoor

/-- A list's part ahead of a mark, the part behind it, and whether it stands there. -/
def cutL (c : UInt8) : List UInt8 → List UInt8 × List UInt8 × Bool
  | [] => ([], [], false)
  | x :: l => if x = c then ([], l, true) else (x :: (cutL c l).1, (cutL c l).2.1, (cutL c l).2.2)
def cutN (c : UInt8) (s : ByteArray) : ByteArray := ofL (cutL c s.data.toList).1
def cutV (c : UInt8) (s : ByteArray) : ByteArray := ofL (cutL c s.data.toList).2.1
def cutH (c : UInt8) (s : ByteArray) : Bool := (cutL c s.data.toList).2.2
theorem cutL_none (c : UInt8) : ∀ (a : List UInt8), (∀ x ∈ a, x ≠ c) → cutL c a = (a, [], false)
  | [], _ => rfl
  | x :: a, h => by rw [cutL, if_neg (h x (by simp)), cutL_none c a (fun y hy => h y (by simp [hy]))]
theorem cutL_cut (c : UInt8) (b : List UInt8) : ∀ (a : List UInt8), (∀ x ∈ a, x ≠ c) → cutL c (a ++ c :: b) = (a, b, true)
  | [], _ => by simp [cutL]
  | x :: a, h => by rw [List.cons_append, cutL, if_neg (h x (by simp)), cutL_cut c b a (fun y hy => h y (by simp [hy]))]
theorem cutL_len (c : UInt8) (l : List UInt8) : (cutL c l).1.length + (cutL c l).2.1.length + (if (cutL c l).2.2 = true then 1 else 0) = l.length := by
  rcases first_cut c l with h | ⟨a, b, e, h⟩
  · rw [cutL_none c l h]; simp
  · subst e; rw [cutL_cut c b a h]; simp; omega
theorem cutN_size (c : UInt8) (s : ByteArray) : (cutN c s).size ≤ s.size := by
  have := cutL_len c s.data.toList
  have hl : s.data.toList.length = s.size := rfl
  unfold cutN; rw [ofL_size]; omega
theorem cutV_size (c : UInt8) (s : ByteArray) : (cutV c s).size ≤ s.size := by
  have := cutL_len c s.data.toList
  have hl : s.data.toList.length = s.size := rfl
  unfold cutV; rw [ofL_size]; omega
theorem ofL_data (l : List UInt8) : (ofL l).data.toList = l := by simp [ofL]
/-- The index of a mark tells where a text is cut. -/
theorem cut_ways (c : UInt8) (s : ByteArray) : (Lib.indexByte s.data.toList c = -1 ∧ cutN c s = s ∧ cutV c s = ⟨#[]⟩ ∧ cutH c s = false ∧ ∀ j, j < s.size → byteAt s j ≠ c) ∨
    ∃ i : Nat, Lib.indexByte s.data.toList c = i ∧ i < s.size ∧ cutN c s = s.extract 0 i ∧ cutV c s = s.extract (i + 1) s.size ∧ cutH c s = true ∧ byteAt s i = c ∧ ∀ j, j < i → byteAt s j ≠ c := by
  have hl : s.data.toList.length = s.size := rfl
  have hget : ∀ j, (h : j < s.size) → byteAt s j = s.data.toList[j] := fun j h => by unfold byteAt; rw [List.getD, List.getElem?_eq_getElem (by omega)]; rfl
  unfold cutN cutV cutH
  rcases first_cut c s.data.toList with h | ⟨a, b, e, h⟩
  · refine .inl ⟨by rw [← Lib.index_one]; exact split_index_none h, ?_, ?_, ?_, fun j hj => ?_⟩
    · rw [cutL_none c _ h]; exact ofL_list s
    · rw [cutL_none c _ h]; rfl
    · rw [cutL_none c _ h]
    · rw [hget j hj]; exact h _ (List.getElem_mem _)
  · have hs : s.size = a.length + 1 + b.length := by rw [← hl, e]; simp; omega
    refine .inr ⟨a.length, by rw [← Lib.index_one, e]; exact split_index h, by omega, ?_, ?_, ?_, ?_, fun j hj => ?_⟩
    · rw [e, cutL_cut c b a h]
      apply ByteArray.ext
      apply Array.ext'
      rw [Lib.extract_data, e]
      simp [ofL]
    · rw [e, cutL_cut c b a h]
      apply ByteArray.ext
      apply Array.ext'
      rw [Lib.extract_data, e, hs]
      simp [ofL]
    · rw [e, cutL_cut c b a h]
    · rw [hget _ (by omega)]; simp [e]
    · rw [hget _ (by omega)]
      have : s.data.toList[j]'(by omega) = a[j] := by simp [e, List.getElem_append_left, hj]
      rw [this]
      exact h _ (List.getElem_mem _)
/-- Where a text is cut, as one who goes from byte to byte finds it. -/
theorem cut_lim (c : UInt8) (s : ByteArray) : ∃ i, i ≤ s.size ∧ (∀ j, j < i → byteAt s j ≠ c) ∧ cutN c s = s.extract 0 i ∧ (cutN c s).size = i ∧ ((i = s.size ∧ cutV c s = ⟨#[]⟩ ∧ cutH c s = false) ∨ (i < s.size ∧ byteAt s i = c ∧ cutV c s = s.extract (i + 1) s.size ∧ cutH c s = true)) := by
  rcases cut_ways c s with ⟨_, e1, e2, e3, h⟩ | ⟨i, _, hi, e1, e2, e3, h0, h⟩
  · refine ⟨s.size, Nat.le_refl _, h, ?_, by rw [e1], .inl ⟨rfl, e2, e3⟩⟩
    rw [e1]
    apply ByteArray.ext
    apply Array.ext'
    rw [Lib.extract_data]
    have hl : s.data.toList.length = s.size := rfl
    rw [List.drop_zero, Nat.sub_zero, ← hl, List.take_length]
  · exact ⟨i, by omega, h, e1, by rw [e1, ByteArray.size_extract]; omega, .inr ⟨hi, h0, e2, e3⟩⟩
theorem u8_neN {b : UInt8} {n : Nat} (hn : n < 256) (h : b ≠ UInt8.ofNat n) : ((b.toNat : Int) != (n : Int)) = true := by
  simp only [bne_iff_ne, ne_eq, Int.ofNat_inj]
  intro e
  apply h
  apply UInt8.toNat_inj.1
  rw [e, UInt8.toNat_ofNat_of_lt' hn]
theorem u8_eqN {b : UInt8} {n : Nat} (hn : n < 256) (h : b = UInt8.ofNat n) : ((b.toNat : Int) != (n : Int)) = false := by
  subst h
  rw [UInt8.toNat_ofNat_of_lt' hn]
  simp
theorem byteAt_ix {s : ByteArray} {i : Nat} (h : i < s.size) : byteAt s i = s[i] := by simp [byteAt, List.getD, h]; rfl
end Go.Proofs.YtakcfgmibijdnaaGreatDoor

/- Plain facts on UTF-8: the character at a place of a text. -/
namespace Go.Proofs.YtakcfgmibijdnaaGreatDoor

/-- What Go's decoder tells of a place. -/
def decB (s : ByteArray) (i : Nat) : Nat × Nat := Lib.decodeN (s.size - i) (byteAt s i).toNat (byteAt s (i + 1)).toNat (byteAt s (i + 2)).toNat (byteAt s (i + 3)).toNat
/-- A character stands at a place. -/
def okB (s : ByteArray) (i : Nat) : Bool := decide (decB s i ≠ (65533, 1))
/-- A number is a character. -/
def rightC (n : Nat) : Prop := n < 55296 ∨ (57344 ≤ n ∧ n ≤ 1114111)

theorem byteAt_get (s : ByteArray) (i : Nat) : s.get! i = byteAt s i := by
  unfold byteAt ByteArray.get!
  simp [List.getD, Array.getElem!_eq_getD, Array.getD_eq_getD_getElem?]
  rfl

theorem decodeN_bounds (n b0 b1 b2 b3 : Nat) (hn : 0 < n) (h0 : b0 < 256) : 1 ≤ (Lib.decodeN n b0 b1 b2 b3).2 ∧ (Lib.decodeN n b0 b1 b2 b3).2 ≤ 4 ∧ (Lib.decodeN n b0 b1 b2 b3).2 ≤ n ∧ rightC (Lib.decodeN n b0 b1 b2 b3).1 := by
  unfold Lib.decodeN rightC
  repeat' split
  all_goals (simp only []; omega)

theorem decB_bounds (s : ByteArray) (i : Nat) (hi : i < s.size) : 1 ≤ (decB s i).2 ∧ (decB s i).2 ≤ 4 ∧ i + (decB s i).2 ≤ s.size ∧ rightC (decB s i).1 := by
  have := decodeN_bounds (s.size - i) (byteAt s i).toNat (byteAt s (i + 1)).toNat (byteAt s (i + 2)).toNat (byteAt s (i + 3)).toNat (by omega) (byteAt s i).toNat_lt
  change 1 ≤ (decB s i).2 ∧ (decB s i).2 ≤ 4 ∧ (decB s i).2 ≤ s.size - i ∧ rightC (decB s i).1 at this
  obtain ⟨a, b, c, d⟩ := this
  exact ⟨a, b, by omega, d⟩

theorem byteAt_extract (s : ByteArray) (i j : Nat) (_ : i + j < s.size) : byteAt (s.extract i s.size) j = byteAt s (i + j) := by
  unfold byteAt
  rw [Lib.extract_data, List.take_of_length_le (by simp)]
  simp [List.getD]
theorem byteAt_out (s : ByteArray) (j : Nat) (h : s.size ≤ j) : byteAt s j = 0 := by
  unfold byteAt
  rw [List.getD, List.getElem?_eq_none (by exact h)]
  rfl
theorem extract_tail_size (s : ByteArray) (i : Nat) (h : i ≤ s.size) : (s.extract i s.size).size = s.size - i := by
  rw [ByteArray.size_extract]; omega

theorem decodeGo_extract (s : ByteArray) (i : Nat) (hi : i < s.size) : Lib.decodeGo (s.extract i s.size) = decB s i := by
  have hsz := extract_tail_size s i (by omega)
  have hb : ∀ j, byteAt (s.extract i s.size) j = byteAt s (i + j) := fun j => by
    by_cases h : i + j < s.size
    · exact byteAt_extract s i j h
    · rw [byteAt_out _ _ (by rw [hsz]; omega), byteAt_out _ _ (by omega)]
  rw [Lib.decodeGo, if_neg (by omega), Lib.decode_at, hsz, Nat.sub_zero]
  simp only [byteAt_get, hb, Nat.zero_add, decB, Nat.add_zero]

/-- The characters from a place on, and the place at which none stands. -/
def chrsFrom (s : ByteArray) : Nat → Nat → List Nat × Option Nat
  | 0, _ => ([], none)
  | f + 1, i => if i < s.size then (if okB s i = true then ((decB s i).1 :: (chrsFrom s f (i + (decB s i).2)).1, (chrsFrom s f (i + (decB s i).2)).2) else ([], some i)) else ([], none)
/-- A text's characters, and the place at which none stands. -/
def chrs (s : ByteArray) : List Nat × Option Nat := chrsFrom s s.size 0

/-- So many characters have been read, up to a place. -/
def Reach (s : ByteArray) (l : List Nat) (i : Nat) : Prop := ∃ f, s.size - i ≤ f ∧ l.length ≤ i ∧ chrs s = (l ++ (chrsFrom s f i).1, (chrsFrom s f i).2)
theorem Reach.zero (s : ByteArray) : Reach s [] 0 := ⟨s.size, by omega, by simp, by simp [chrs]⟩
theorem Reach.step {s : ByteArray} {l : List Nat} {i : Nat} (h : Reach s l i) (hi : i < s.size) (ho : okB s i = true) : Reach s (l ++ [(decB s i).1]) (i + (decB s i).2) := by
  obtain ⟨f, hf, hl, e⟩ := h
  have hd := decB_bounds s i hi
  cases f with
  | zero => omega
  | succ f =>
    rw [chrsFrom, if_pos hi, if_pos ho] at e
    exact ⟨f, by omega, by simp; omega, by simpa using e⟩
theorem Reach.bad {s : ByteArray} {l : List Nat} {i : Nat} (h : Reach s l i) (hi : i < s.size) (ho : okB s i = false) : chrs s = (l, some i) := by
  obtain ⟨f, hf, hl, e⟩ := h
  cases f with
  | zero => omega
  | succ f =>
    rw [chrsFrom, if_pos hi, if_neg (by simp [ho])] at e
    simpa using e
theorem Reach.done {s : ByteArray} {l : List Nat} {i : Nat} (h : Reach s l i) (hi : ¬ i < s.size) : chrs s = (l, none) := by
  obtain ⟨f, hf, hl, e⟩ := h
  cases f with
  | zero => rw [chrsFrom] at e; simpa using e
  | succ f =>
    rw [chrsFrom, if_neg hi] at e
    simpa using e
end Go.Proofs.YtakcfgmibijdnaaGreatDoor

/- Queries' items: plain facts. -/
namespace Go.Proofs.YtakcfgmibijdnaaGreatDoor
open Go.RowKit

def okS (l : List UInt8) : Bool := (chrs (ofL l)).2.isNone
/-- The item of a part, or the error's kind and place. -/
def itemP (p : ByteArray) : Except (Nat × Nat) It :=
  match (told (cutN 61 p)).2 with
  | some i => .error (11, i)
  | none => match (told (cutV 61 p)).2 with
    | some i => .error (11, (cutN 61 p).size + 1 + i)
    | none => if okS (bytesT (cutN 61 p)) = true ∧ okS (bytesT (cutV 61 p)) = true then .ok ⟨ofL (bytesT (cutN 61 p)), ofL (bytesT (cutV 61 p)), cutH 61 p⟩ else .error (12, 0)
theorem itemP_bad1 {p : ByteArray} {i : Nat} (h : (told (cutN 61 p)).2 = some i) : itemP p = .error (11, i) := by unfold itemP; rw [h]
theorem itemP_bad2 {p : ByteArray} {i : Nat} (h0 : (told (cutN 61 p)).2 = none) (h : (told (cutV 61 p)).2 = some i) : itemP p = .error (11, (cutN 61 p).size + 1 + i) := by unfold itemP; rw [h0, h]
theorem itemP_utf {p : ByteArray} (h0 : (told (cutN 61 p)).2 = none) (h1 : (told (cutV 61 p)).2 = none) (h : ¬ (okS (bytesT (cutN 61 p)) = true ∧ okS (bytesT (cutV 61 p)) = true)) : itemP p = .error (12, 0) := by unfold itemP; rw [h0, h1]; exact if_neg h
theorem itemP_ok {p : ByteArray} (h0 : (told (cutN 61 p)).2 = none) (h1 : (told (cutV 61 p)).2 = none) (h : okS (bytesT (cutN 61 p)) = true ∧ okS (bytesT (cutV 61 p)) = true) : itemP p = .ok ⟨ofL (bytesT (cutN 61 p)), ofL (bytesT (cutV 61 p)), cutH 61 p⟩ := by unfold itemP; rw [h0, h1]; exact if_pos h
theorem itemP_kind {p : ByteArray} {k i : Nat} (h : itemP p = .error (k, i)) : k = 11 ∨ k = 12 := by
  unfold itemP at h
  split at h
  · cases h; exact .inl rfl
  · split at h
    · cases h; exact .inl rfl
    · split at h
      · cases h
      · cases h; exact .inr rfl

/-- What a part of a query gives. -/
def stepQ : StepG := fun p full => if p.size = 0 then none else if full = true then some (.error (15, 0)) else some (itemP p)
theorem stepQ_right : RightG stepQ where
  kind := by
    intro p b k i h
    unfold stepQ at h
    split at h
    · cases h
    · split at h
      · cases h; decide
      · have := itemP_kind (Option.some.inj h); omega
  none := by
    intro p b b' h
    unfold stepQ at h ⊢
    split at h
    · next h0 => rw [if_pos h0]
    · split at h <;> cases h
  full := by
    intro p x h
    unfold stepQ at h
    split at h
    · cases h
    · cases h
theorem stepQ_empty {p : ByteArray} {b : Bool} (h : p.size = 0) : stepQ p b = none := by unfold stepQ; rw [if_pos h]
theorem stepQ_many {p : ByteArray} (h : p.size ≠ 0) : stepQ p true = some (.error (15, 0)) := by unfold stepQ; rw [if_neg h, if_pos rfl]
theorem stepQ_item {p : ByteArray} (h : p.size ≠ 0) : stepQ p false = some (itemP p) := by unfold stepQ; rw [if_neg h, if_neg (by decide)]
def itemsQ (s : ByteArray) : List It × Nat × Nat := goG stepQ 256 (partsB 38 s) 0 []
end Go.Proofs.YtakcfgmibijdnaaGreatDoor

/- Parts put together by a mark. -/
namespace Go.Proofs.YtakcfgmibijdnaaGreatDoor

def joinA (c : UInt8) : List (List UInt8) → List UInt8
  | [] => []
  | [p] => p
  | p :: q :: r => p ++ c :: joinA c (q :: r)
theorem joinA_lib (c : UInt8) : ∀ l, Lib.join l [c] = joinA c l := by
  intro l
  induction l with
  | nil => rfl
  | cons p l ih =>
    cases l with
    | nil => simp [Lib.join, joinA, List.intercalate]
    | cons q r =>
      have e : Lib.join (p :: q :: r) [c] = p ++ c :: Lib.join (q :: r) [c] := by simp [Lib.join, List.intercalate, List.intersperse]
      rw [e, ih]
      rfl
theorem joinA_snoc (c : UInt8) (p : List UInt8) : ∀ l, l ≠ [] → joinA c (l ++ [p]) = joinA c l ++ c :: p := by
  intro l
  induction l with
  | nil => intro h; exact absurd rfl h
  | cons q l ih =>
    intro _
    cases l with
    | nil => rfl
    | cons r l =>
      show q ++ c :: joinA c ((r :: l) ++ [p]) = q ++ c :: joinA c (r :: l) ++ c :: p
      rw [ih (by simp)]
      simp
theorem split_join (c : UInt8) : ∀ l : List (List UInt8), l ≠ [] → (∀ p ∈ l, ∀ x ∈ p, x ≠ c) → splitL c (joinA c l) = l := by
  intro l
  induction l with
  | nil => intro h; exact absurd rfl h
  | cons p l ih =>
    intro _ h
    cases l with
    | nil => exact splitL_none c p (h p (by simp))
    | cons q l =>
      show splitL c (p ++ c :: joinA c (q :: l)) = _
      rw [splitL_cut c _ p (h p (by simp)), ih (by simp) fun y hy => h y (by simp [hy])]
theorem joinA_nil {c : UInt8} {l : List (List UInt8)} (h : ∀ p ∈ l, p ≠ []) : joinA c l = [] ↔ l = [] := by
  cases l with
  | nil => exact ⟨fun _ => rfl, fun _ => rfl⟩
  | cons p l =>
    refine ⟨fun e => ?_, fun e => by cases e⟩
    cases l with
    | nil => exact absurd e (h p (by simp))
    | cons q l =>
      have e' : p ++ c :: joinA c (q :: l) = [] := e
      simp at e'
theorem joinA_len (c : UInt8) (m : Nat) : ∀ l : List (List UInt8), (∀ p ∈ l, p.length ≤ m) → (joinA c l).length ≤ (m + 1) * l.length := by
  intro l
  induction l with
  | nil => intro _; exact Nat.zero_le _
  | cons p l ih =>
    intro h
    have h1 := h p (by simp)
    have h2 := ih fun y hy => h y (by simp [hy])
    have e : (m + 1) * (p :: l).length = (m + 1) * l.length + (m + 1) := by rw [List.length_cons, Nat.mul_succ]
    rw [e]
    cases l with
    | nil => show p.length ≤ _; omega
    | cons q l =>
      show (p ++ c :: joinA c (q :: l)).length ≤ _
      rw [List.length_append, List.length_cons]
      omega
end Go.Proofs.YtakcfgmibijdnaaGreatDoor
