/- Plain facts: parts that are joined by a mark that stands in none of them are cut as they were. -/
import Derived.Test.YtpaeloadmjblpaaDoorFields
import Derived.Test.YtpaeloadmjblpaaDoorStrs
import Derived.Test.YtpaeloadmjblpaaDoorBa
namespace Go.Proofs.YtpaeloadmjblpaaDoor

/-- The parts that are shut, and the one that is open, behind a text. -/
def cutStep (mark : UInt8) (d : List (List UInt8) × List UInt8) (c : UInt8) : List (List UInt8) × List UInt8 := if c = mark then (d.1 ++ [d.2], []) else (d.1, d.2 ++ [c])
def cutL (mark : UInt8) (l : List UInt8) : List (List UInt8) × List UInt8 := l.foldl (cutStep mark) ([], [])

theorem cutL_append (mark : UInt8) (a b : List UInt8) : cutL mark (a ++ b) = b.foldl (cutStep mark) (cutL mark a) := List.foldl_append
theorem fold_free (mark : UInt8) (p : List UInt8) (h : ∀ c, c ∈ p → c ≠ mark) (d : List (List UInt8) × List UInt8) : p.foldl (cutStep mark) d = (d.1, d.2 ++ p) := by
  induction p generalizing d with
  | nil => simp
  | cons c r ih =>
    have hc : c ≠ mark := h c (by simp)
    rw [List.foldl_cons, ih (fun x hx => h x (by simp [hx]))]
    simp [cutStep, hc]

theorem map_inj_of {α β : Type} {f : α → β} (hf : ∀ a b, f a = f b → a = b) {l m : List α} (h : l.map f = m.map f) : l = m := by
  induction l generalizing m with
  | nil => cases m <;> simp_all
  | cons a r ih =>
    cases m with
    | nil => simp at h
    | cons b q =>
      simp only [List.map_cons, List.cons.injEq] at h
      rw [hf a b h.1, ih h.2]

theorem cutAt_cutL (s : ByteArray) (mark : UInt8) (k : Nat) (hk : k ≤ s.size) :
    (cutAt s mark k).1.map (·.data.toList) = (cutL mark (s.data.toList.take k)).1 ∧ (s.data.toList.take k).drop (cutAt s mark k).2 = (cutL mark (s.data.toList.take k)).2 := by
  induction k with
  | zero => simp [cutAt, cutL]
  | succ k ih =>
    obtain ⟨h1, h2⟩ := ih (by omega)
    have hl : s.data.toList.length = s.size := rfl
    have ht : s.data.toList.take (k + 1) = s.data.toList.take k ++ [byteAt s k] := by
      rw [List.take_succ_eq_append_getElem (by omega)]
      simp [byteAt, List.getD, hl, show k < s.size from hk]
    have hle := (cutAt_le s mark k).2
    rw [ht, cutL_append]
    simp only [List.foldl_cons, List.foldl_nil]
    by_cases hc : byteAt s k = mark
    · rw [cutAt, if_pos hc, cutStep, if_pos hc]
      refine ⟨?_, ?_⟩
      · simp only [List.map_append, List.map_cons, List.map_nil, h1]
        congr 2
        rw [Lib.extract_data, ← h2, List.drop_take]
      · simp [hl]
        omega
    · rw [cutAt, if_neg hc, cutStep, if_neg hc]
      refine ⟨h1, ?_⟩
      rw [List.drop_append_of_le_length (by simp [hl]; omega), h2]

/-- The parts that are joined. -/
def joinTo (l : List ByteArray) (mark : UInt8) : Nat → ByteArray
  | 0 => ByteArray.empty
  | k + 1 => if k = 0 then ByteArray.empty ++ l.getD 0 ByteArray.empty else joinTo l mark k ++ ⟨#[mark]⟩ ++ l.getD k ByteArray.empty

theorem joinTo_one (l : List ByteArray) (mark : UInt8) : joinTo l mark 1 = joinTo l mark 0 ++ l.getD 0 ByteArray.empty := rfl
theorem joinTo_more (l : List ByteArray) (mark : UInt8) (k : Nat) (h : 0 < k) : joinTo l mark (k + 1) = joinTo l mark k ++ ⟨#[mark]⟩ ++ l.getD k ByteArray.empty := by
  rw [joinTo, if_neg (by omega)]
theorem hasB_mem {s : ByteArray} {c : UInt8} (h : hasB s c = false) : ∀ x, x ∈ s.data.toList → x ≠ c := by
  intro x hx e
  subst e
  obtain ⟨i, hi, he⟩ := List.getElem_of_mem hx
  have := hasB_yes (s := s) (c := x) (k := i) hi (by simp only [byteAt, List.getD]; rw [List.getElem?_eq_getElem hi, he]; rfl)
  rw [h] at this
  cases this

theorem joinTo_cut (l : List ByteArray) (mark : UInt8) (n : Nat) (hn : n ≤ l.length) (h1 : 1 ≤ n) (h : ∀ j, j < n → hasB (l.getD j ByteArray.empty) mark = false) :
    cutL mark (joinTo l mark n).data.toList = ((l.take (n - 1)).map (·.data.toList), (l.getD (n - 1) ByteArray.empty).data.toList) := by
  induction n with
  | zero => omega
  | succ k ih =>
    by_cases hk : k = 0
    · subst hk
      rw [joinTo, if_pos rfl, data_append]
      have he : (ByteArray.empty).data.toList = [] := rfl
      rw [he, List.nil_append]
      unfold cutL
      rw [fold_free mark _ (hasB_mem (h 0 (by omega)))]
      simp
    · rw [joinTo, if_neg hk, data_append, data_append]
      rw [cutL_append, cutL_append, ih (by omega) (by omega) (fun j hj => h j (by omega)), fold_free mark _ (hasB_mem (h k (by omega)))]
      have hm : (⟨#[mark]⟩ : ByteArray).data.toList = [mark] := rfl
      rw [hm]
      simp only [List.foldl_cons, List.foldl_nil, cutStep, if_true, List.nil_append, Nat.add_sub_cancel]
      congr 1
      have hlt : k - 1 < l.length := by omega
      have e2 : k = (k - 1) + 1 := by omega
      conv => rhs; rw [e2]
      rw [List.take_succ_eq_append_getElem hlt, List.map_append]
      simp [List.getD, hlt]

theorem joinTo_size (l : List ByteArray) (mark : UInt8) (n : Nat) (h : ∀ j, j < n → (l.getD j ByteArray.empty).size ≤ 200) : (joinTo l mark n).size ≤ 201 * n := by
  induction n with
  | zero => simp [joinTo]
  | succ k ih =>
    have := ih (fun j hj => h j (by omega))
    have h2 := h k (by omega)
    rw [joinTo]
    split
    · next h0 => subst h0; rw [ByteArray.size_append]; have : ByteArray.empty.size = 0 := rfl; omega
    · rw [ByteArray.size_append, ByteArray.size_append]
      have : (⟨#[mark]⟩ : ByteArray).size = 1 := rfl
      omega

theorem joined_parts (l : List ByteArray) (mark : UInt8) (n : Nat) (hn : l.length = n) (h1 : 1 ≤ n) (h : ∀ j, j < n → hasB (l.getD j ByteArray.empty) mark = false) :
    (cutAt (joinTo l mark n) mark (joinTo l mark n).size).1 ++ [(joinTo l mark n).extract (cutAt (joinTo l mark n) mark (joinTo l mark n).size).2 (joinTo l mark n).size] = l ∧
      (cutAt (joinTo l mark n) mark (joinTo l mark n).size).1.length = n - 1 := by
  have hc := joinTo_cut l mark n (by omega) h1 h
  generalize joinTo l mark n = s at *
  obtain ⟨e1, e2⟩ := cutAt_cutL s mark s.size (Nat.le_refl _)
  have ht : s.data.toList.take s.size = s.data.toList := List.take_of_length_le (Nat.le_refl _)
  rw [ht, hc] at e1 e2
  have e3 : (cutAt s mark s.size).1 = l.take (n - 1) := by
    exact map_inj_of (fun a b h => ba_ext h) e1
  have e4 : s.extract (cutAt s mark s.size).2 s.size = l.getD (n - 1) ByteArray.empty := by
    apply ba_ext
    rw [Lib.extract_data, List.take_of_length_le (by simp), e2]
  have hlt : n - 1 < l.length := by omega
  rw [e4, e3]
  refine ⟨?_, by simp; omega⟩
  have : l.getD (n - 1) ByteArray.empty = l[n - 1] := by simp [List.getD, hlt]
  rw [this, ← List.take_succ_eq_append_getElem hlt]
  exact List.take_of_length_le (by omega)
end Go.Proofs.YtpaeloadmjblpaaDoor
