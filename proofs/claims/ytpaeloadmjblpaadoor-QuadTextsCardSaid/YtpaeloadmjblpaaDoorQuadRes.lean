/- Plain: an address's text as a whole: its parts, the first thing that is wrong, its number. -/
import Derived.Test.YtpaeloadmjblpaaDoorQuadPlain
import Derived.Test.YtpaeloadmjblpaaDoorQuadLib
import Derived.Test.YtpaeloadmjblpaaDoorFields
namespace Go.Proofs.YtpaeloadmjblpaaDoor

/-- All parts between marks. -/
def fieldsB (t : ByteArray) (mark : UInt8) : List ByteArray := (cutAt t mark t.size).1 ++ [t.extract (cutAt t mark t.size).2 t.size]
/-- The mark at which there are too many parts. -/
def overB (t : ByteArray) (mark : UInt8) (most : Nat) : Option Nat := (List.range t.size).find? fun i => decide (byteAt t i = mark ∧ (cutAt t mark (i + 1)).1.length = most)
theorem over_some {t : ByteArray} {mark : UInt8} {most i : Nat} (hi : i < t.size) (hb : byteAt t i = mark) (h : (cutAt t mark (i + 1)).1.length = most) : overB t mark most = some i := by
  unfold overB
  rw [List.find?_range_eq_some]
  refine ⟨by simp [hb, h], List.mem_range.2 hi, fun j hj => ?_⟩
  have h1 : (cutAt t mark (i + 1)).1.length = (cutAt t mark i).1.length + 1 := by rw [cutAt, if_pos hb]; simp
  have h2 := cutAt_mono t mark (j := j + 1) (k := i) hj
  simp only [Bool.not_eq_true', decide_eq_false_iff_not]
  omega
theorem over_none {t : ByteArray} {mark : UInt8} {most : Nat} (h : (cutAt t mark t.size).1.length < most) : overB t mark most = none := by
  unfold overB
  rw [List.find?_range_eq_none]
  intro i hi
  have h2 := cutAt_mono t mark (j := i + 1) (k := t.size) hi
  simp only [Bool.not_eq_true', decide_eq_false_iff_not]
  omega
theorem cut_sizes (t : ByteArray) (mark : UInt8) (k : Nat) : ∀ p ∈ (cutAt t mark k).1, p.size ≤ t.size := by
  induction k with
  | zero => intro p hp; simp [cutAt] at hp
  | succ k ih =>
    intro p hp
    rw [cutAt] at hp
    split at hp
    · rcases List.mem_append.1 hp with h | h
      · exact ih p h
      · simp at h; subst h; rw [ByteArray.size_extract]; omega
    · exact ih p hp
theorem fields_sizes (t : ByteArray) (mark : UInt8) : ∀ p ∈ fieldsB t mark, p.size ≤ t.size := by
  intro p hp
  rcases List.mem_append.1 hp with h | h
  · exact cut_sizes t mark _ p h
  · simp at h; subst h; rw [ByteArray.size_extract]; omega
theorem fields_len (t : ByteArray) (mark : UInt8) : (fieldsB t mark).length = (cutAt t mark t.size).1.length + 1 := by unfold fieldsB; simp
/-- What an address's text gives: the number, the error's kind (0: none), its place. -/
def parseQ (s : ByteArray) : Nat × Nat × Nat := match overB (cutP s) 46 4 with
  | some i => (0, 15, i)
  | none => match checkQ (fieldsB (cutP s) 46) 0 with
    | some (k, a) => (0, k, a)
    | none => match sumQ (fieldsB (cutP s) 46).length (fieldsB (cutP s) 46) 0 0 0 with
      | (t, none) => (t, 0, 0)
      | (_, some p) => (0, 16, p)
theorem parse_over {s : ByteArray} {i : Nat} (h : overB (cutP s) 46 4 = some i) : parseQ s = (0, 15, i) := by unfold parseQ; rw [h]
theorem parse_bad {s : ByteArray} {k a : Nat} (h : overB (cutP s) 46 4 = none) (h2 : checkQ (fieldsB (cutP s) 46) 0 = some (k, a)) : parseQ s = (0, k, a) := by unfold parseQ; rw [h, h2]
theorem parse_range {s : ByteArray} {t p : Nat} (h : overB (cutP s) 46 4 = none) (h2 : checkQ (fieldsB (cutP s) 46) 0 = none) (h3 : sumQ (fieldsB (cutP s) 46).length (fieldsB (cutP s) 46) 0 0 0 = (t, some p)) : parseQ s = (0, 16, p) := by unfold parseQ; rw [h, h2, h3]
theorem parse_good {s : ByteArray} {t : Nat} (h : overB (cutP s) 46 4 = none) (h2 : checkQ (fieldsB (cutP s) 46) 0 = none) (h3 : sumQ (fieldsB (cutP s) 46).length (fieldsB (cutP s) 46) 0 0 0 = (t, none)) : parseQ s = (t, 0, 0) := by unfold parseQ; rw [h, h2, h3]
theorem check_none {ps : List ByteArray} : ∀ a : Nat, checkQ ps a = none → ∀ p ∈ ps, badQ p = none := by
  induction ps with
  | nil => intro a _ p hp; cases hp
  | cons x ps ih =>
    intro a h p hp
    unfold checkQ at h
    cases hx : badQ x with
    | some k => obtain ⟨k, j⟩ := k; rw [hx] at h; cases h
    | none =>
      rw [hx] at h
      rcases List.mem_cons.1 hp with rfl | hp
      · exact hx
      · exact ih _ h p hp
theorem check_yes {p : ByteArray} {ps : List ByteArray} {a : Nat} (h : badQ p = none) : checkQ (p :: ps) a = checkQ ps (a + (p.size + 1)) := by rw [checkQ, h]
theorem check_no {p : ByteArray} {ps : List ByteArray} {a k j : Nat} (h : badQ p = some (k, j)) : checkQ (p :: ps) a = some (k, a + j) := by rw [checkQ, h]
theorem sum_no {n i a t : Nat} {p : ByteArray} {ps : List ByteArray} (h : limQ i n < numQ p) : sumQ n (p :: ps) i a t = (0, some a) := by rw [sumQ, if_pos h]
theorem sum_yes {n i a t : Nat} {p : ByteArray} {ps : List ByteArray} (h : ¬ limQ i n < numQ p) : sumQ n (p :: ps) i a t = sumQ n ps (i + 1) (a + (p.size + 1)) (t + numQ p * wtQ i n) := by rw [sumQ, if_neg h]
theorem lim_wt {i n x : Nat} (hi : i < n) (hn : n ≤ 4) (h : ¬ limQ i n < x) : x * wtQ i n ≤ 4294967295 ∧ limQ i n ≤ 4294967295 := by
  have h' : x ≤ limQ i n := by omega
  have hcases : ∀ n : Fin 5, ∀ i : Fin 4, i.1 < n.1 → limQ i.1 n.1 * wtQ i.1 n.1 ≤ 4294967295 ∧ limQ i.1 n.1 ≤ 4294967295 := by decide
  have := hcases ⟨n, by omega⟩ ⟨i, by omega⟩ hi
  exact ⟨Nat.le_trans (Nat.mul_le_mul_right _ h') this.1, this.2⟩
theorem lim_p40 {i n : Nat} (hi : i < n) (hn : n ≤ 4) : limQ i n < 4294967296 := by
  have hcases : ∀ n : Fin 5, ∀ i : Fin 4, i.1 < n.1 → limQ i.1 n.1 < 4294967296 := by decide
  exact hcases ⟨n, by omega⟩ ⟨i, by omega⟩ hi
theorem drop_cons {α : Type} {l : List α} {i : Nat} {d : α} (h : l[i]? = some d) : l.drop i = d :: l.drop (i + 1) := by
  obtain ⟨hi, rfl⟩ := List.getElem?_eq_some_iff.1 h
  exact List.drop_eq_getElem_cons hi
end Go.Proofs.YtpaeloadmjblpaaDoor
