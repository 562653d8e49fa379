/- A list cut at a mark: plain facts, in the forms that strings.Split and the reference's parts have. -/
import Derived.Lib.SplitLaws
import Derived.Lib.IndexBytes
import Derived.Lib.IndexLaws
import Derived.Test.YtbonnmkkacplgaaGreatDoorLabelNamesM1
import Derived.Test.YtbonnmkkacplgaaGreatDoorLabelNamesM11
import Derived.Test.YtbonnmkkacplgaaGreatDoorLabelNamesM6

namespace Go.Proofs.YtbonnmkkacplgaaGreatDoor

def splitL (c : UInt8) : List UInt8 → List (List UInt8)
  | [] => [[]]
  | x :: l => if x = c then [] :: splitL c l else match splitL c l with | [] => [[x]] | p :: ps => (x :: p) :: ps
theorem splitL_none (c : UInt8) : ∀ (a : List UInt8), (∀ x ∈ a, x ≠ c) → splitL c a = [a]
  | [], _ => rfl
  | x :: a, h => by
    have := splitL_none c a (fun y hy => h y (by simp [hy]))
    rw [splitL, if_neg (h x (by simp)), this]
theorem splitL_cut (c : UInt8) (b : List UInt8) : ∀ (a : List UInt8), (∀ x ∈ a, x ≠ c) → splitL c (a ++ c :: b) = a :: splitL c b
  | [], _ => by simp [splitL]
  | x :: a, h => by
    have := splitL_cut c b a (fun y hy => h y (by simp [hy]))
    rw [List.cons_append, splitL, if_neg (h x (by simp)), this]
theorem splitL_ne (c : UInt8) (l : List UInt8) : splitL c l ≠ [] := by
  cases l with
  | nil => simp [splitL]
  | cons x l =>
    rw [splitL]
    split
    · simp
    · split <;> simp
/-- A list without the mark, or the part ahead of the first one. -/
theorem first_cut (c : UInt8) : ∀ (l : List UInt8), (∀ x ∈ l, x ≠ c) ∨ ∃ a b, l = a ++ c :: b ∧ ∀ x ∈ a, x ≠ c
  | [] => .inl (by simp)
  | x :: l => by
    by_cases hx : x = c
    · exact .inr ⟨[], l, by simp [hx], by simp⟩
    · rcases first_cut c l with h | ⟨a, b, e, h⟩
      · exact .inl (by intro y hy; simp at hy; rcases hy with rfl | hy; exact hx; exact h y hy)
      · exact .inr ⟨x :: a, b, by simp [e], by intro y hy; simp at hy; rcases hy with rfl | hy; exact hx; exact h y hy⟩
theorem splitL_app (c : UInt8) (b : List UInt8) : ∀ (n : Nat) (a : List UInt8), a.length ≤ n → splitL c (a ++ c :: b) = splitL c a ++ splitL c b := by
  intro n
  induction n with
  | zero =>
    intro a h
    have : a = [] := List.eq_nil_of_length_eq_zero (by omega)
    subst this
    simp [splitL]
  | succ n ih =>
    intro a h
    rcases first_cut c a with h1 | ⟨x, y, e, h1⟩
    · rw [splitL_cut c b a h1, splitL_none c a h1]; rfl
    · subst e
      rw [List.append_assoc, List.cons_append, splitL_cut c _ x h1, ih y (by simp at h; omega), splitL_cut c _ x h1]
      rfl
theorem splitL_len (c : UInt8) : ∀ (n : Nat) (l : List UInt8), l.length ≤ n → ((splitL c l).map List.length).sum + (splitL c l).length = l.length + 1 := by
  intro n
  induction n with
  | zero =>
    intro l h
    have : l = [] := List.eq_nil_of_length_eq_zero (by omega)
    subst this
    simp [splitL]
  | succ n ih =>
    intro l h
    rcases first_cut c l with h1 | ⟨x, y, e, h1⟩
    · rw [splitL_none c l h1]; simp
    · subst e
      have := ih y (by simp at h; omega)
      rw [splitL_cut c _ x h1]
      simp only [List.map_cons, List.sum_cons, List.length_cons, List.length_append]
      omega
theorem split_index {c : UInt8} {a b : List UInt8} (h : ∀ x ∈ a, x ≠ c) : Lib.index (a ++ c :: b) [c] = (a.length : Int) := by
  rw [Lib.index_one]
  induction a with
  | nil => simp [Lib.indexByte]
  | cons x a ih =>
    have := ih (fun y hy => h y (by simp [hy]))
    rw [List.cons_append, Lib.indexByte, this]
    have hx := h x (by simp)
    simp [hx]
theorem split_index_none {c : UInt8} {a : List UInt8} (h : ∀ x ∈ a, x ≠ c) : Lib.index a [c] = -1 := by
  rw [Lib.index_one]
  induction a with
  | nil => simp [Lib.indexByte]
  | cons x a ih =>
    have := ih (fun y hy => h y (by simp [hy]))
    rw [Lib.indexByte, this]
    have hx := h x (by simp)
    simp [hx]
theorem splitK_is (c : UInt8) : ∀ (n : Nat) (l : List UInt8), l.length ≤ n → Lib.splitK [c] 0 (Lib.count l [c]) l = splitL c l := by
  intro n
  induction n with
  | zero =>
    intro l h
    have : l = [] := List.eq_nil_of_length_eq_zero (by omega)
    subst this
    rw [Lib.count_one]
    rfl
  | succ n ih =>
    intro l h
    rcases first_cut c l with h1 | ⟨x, y, e, h1⟩
    · have h0 : l.count c = 0 := List.count_eq_zero.2 (fun hm => h1 c hm rfl)
      rw [Lib.count_one, h0, splitL_none c l h1]; rfl
    · have hi := split_index (b := y) h1
      have h0 : x.count c = 0 := List.count_eq_zero.2 (fun hm => h1 c hm rfl)
      subst e
      have hc : Lib.count (x ++ c :: y) [c] = Lib.count y [c] + 1 := by
        rw [Lib.count_one, Lib.count_one, List.count_append, h0, List.count_cons_self]; omega
      have hy := ih y (by simp at h; omega)
      rw [hc, Lib.splitK, hi, splitL_cut c _ x h1, ← hy]
      have : ¬ ((x.length : Int) == -1) = true := by simp
      rw [if_neg this]
      simp
theorem splitB_is (c : UInt8) (s : ByteArray) : (Lib.splitB ⟨#[c]⟩ 0 (Lib.countB s ⟨#[c]⟩) s).map (·.data.toList) = splitL c s.data.toList := by
  rw [Lib.splitB_data]
  exact splitK_is c _ _ (Nat.le_refl _)
end Go.Proofs.YtbonnmkkacplgaaGreatDoor

/- Texts out of lists of bytes. -/
namespace Go.Proofs.YtbonnmkkacplgaaGreatDoor
open Go.RowKit

def ofL (l : List UInt8) : ByteArray := ⟨l.toArray⟩
theorem ofL_app (a b : List UInt8) : ofL a ++ ofL b = ofL (a ++ b) := by
  unfold ofL
  apply ByteArray.ext
  apply Array.ext'
  rw [ByteArray.data_append]
  simp
theorem ofL_list (s : ByteArray) : ofL s.data.toList = s := by unfold ofL; rfl
theorem extract_one {s : ByteArray} {i : Nat} (h : i < s.size) : s.extract i (i + 1) = ofL [byteAt s i] := by
  apply ByteArray.ext
  apply Array.ext'
  rw [Lib.extract_data]
  have hl : s.data.toList.length = s.size := rfl
  have : s.data.toList.drop i = s.data.toList[i]'(by omega) :: s.data.toList.drop (i + 1) := List.drop_eq_getElem_cons (by omega)
  rw [this]
  unfold byteAt ofL
  simp [List.getD]
  rw [Array.getElem?_eq_getElem (show i < s.data.size from h)]
  rfl
theorem byte_string (c : UInt8) (w : World) : (convert 32 9 (.slice (some ⟨w.heap.size, 0, none⟩) 1 1)).run Tryz.prog (w.alloc (.cells #[.int .u8 (c.toNat : Int)] 5)) = .ok (.string ⟨#[c]⟩) (w.alloc (.cells #[.int .u8 (c.toNat : Int)] 5)) := by
  have hB : BytesAt (w.alloc (.cells #[.int .u8 (c.toNat : Int)] 5)) w.heap.size [c] := ⟨5, [], 0, 0, .inl (Nat.le_refl _), heap_alloc_new w _⟩
  exact run_back (P := Tryz.prog) _ 32 9 5 w.heap.size 1 [c] Tryz.underlying32 Tryz.underlying5 Tryz.underlying9 hB
theorem ofL_size (l : List UInt8) : (ofL l).size = l.length := by
  show l.toArray.size = _
  simp
end Go.Proofs.YtbonnmkkacplgaaGreatDoor

/- A list cut at a mark once: plain facts. -/
namespace Go.Proofs.YtbonnmkkacplgaaGreatDoor

/-- A list's part ahead of a mark, the part behind it, and whether it stands there. -/
def cutL (c : UInt8) : List UInt8 → List UInt8 × List UInt8 × Bool
  | [] => ([], [], false)
  | x :: l => if x = c then ([], l, true) else (x :: (cutL c l).1, (cutL c l).2.1, (cutL c l).2.2)
def cutN (c : UInt8) (s : ByteArray) : ByteArray := ofL (cutL c s.data.toList).1
def cutV (c : UInt8) (s : ByteArray) : ByteArray := ofL (cutL c s.data.toList).2.1
def cutH (c : UInt8) (s : ByteArray) : Bool := (cutL c s.data.toList).2.2
theorem cutL_none (c : UInt8) : ∀ (a : List UInt8), (∀ x ∈ a, x ≠ c) → cutL c a = (a, [], false)
  | [], _ => rfl
  | x :: a, h => by rw [cutL, if_neg (h x (by simp)), cutL_none c a (fun y hy => h y (by simp [hy]))]
theorem cutL_cut (c : UInt8) (b : List UInt8) : ∀ (a : List UInt8), (∀ x ∈ a, x ≠ c) → cutL c (a ++ c :: b) = (a, b, true)
  | [], _ => by simp [cutL]
  | x :: a, h => by rw [List.cons_append, cutL, if_neg (h x (by simp)), cutL_cut c b a (fun y hy => h y (by simp [hy]))]
theorem cutL_len (c : UInt8) (l : List UInt8) : (cutL c l).1.length + (cutL c l).2.1.length + (if (cutL c l).2.2 = true then 1 else 0) = l.length := by
  rcases first_cut c l with h | ⟨a, b, e, h⟩
  · rw [cutL_none c l h]; simp
  · subst e; rw [cutL_cut c b a h]; simp; omega
theorem cutN_size (c : UInt8) (s : ByteArray) : (cutN c s).size ≤ s.size := by
  have := cutL_len c s.data.toList
  have hl : s.data.toList.length = s.size := rfl
  unfold cutN; rw [ofL_size]; omega
theorem cutV_size (c : UInt8) (s : ByteArray) : (cutV c s).size ≤ s.size := by
  have := cutL_len c s.data.toList
  have hl : s.data.toList.length = s.size := rfl
  unfold cutV; rw [ofL_size]; omega
theorem ofL_data (l : List UInt8) : (ofL l).data.toList = l := by simp [ofL]
/-- The index of a mark tells where a text is cut. -/
theorem cut_ways (c : UInt8) (s : ByteArray) : (Lib.indexByte s.data.toList c = -1 ∧ cutN c s = s ∧ cutV c s = ⟨#[]⟩ ∧ cutH c s = false ∧ ∀ j, j < s.size → byteAt s j ≠ c) ∨
    ∃ i : Nat, Lib.indexByte s.data.toList c = i ∧ i < s.size ∧ cutN c s = s.extract 0 i ∧ cutV c s = s.extract (i + 1) s.size ∧ cutH c s = true ∧ byteAt s i = c ∧ ∀ j, j < i → byteAt s j ≠ c := by
  have hl : s.data.toList.length = s.size := rfl
  have hget : ∀ j, (h : j < s.size) → byteAt s j = s.data.toList[j] := fun j h => by unfold byteAt; rw [List.getD, List.getElem?_eq_getElem (by omega)]; rfl
  unfold cutN cutV cutH
  rcases first_cut c s.data.toList with h | ⟨a, b, e, h⟩
  · refine .inl ⟨by rw [← Lib.index_one]; exact split_index_none h, ?_, ?_, ?_, fun j hj => ?_⟩
    · rw [cutL_none c _ h]; exact ofL_list s
    · rw [cutL_none c _ h]; rfl
    · rw [cutL_none c _ h]
    · rw [hget j hj]; exact h _ (List.getElem_mem _)
  · have hs : s.size = a.length + 1 + b.length := by rw [← hl, e]; simp; omega
    refine .inr ⟨a.length, by rw [← Lib.index_one, e]; exact split_index h, by omega, ?_, ?_, ?_, ?_, fun j hj => ?_⟩
    · rw [e, cutL_cut c b a h]
      apply ByteArray.ext
      apply Array.ext'
      rw [Lib.extract_data, e]
      simp [ofL]
    · rw [e, cutL_cut c b a h]
      apply ByteArray.ext
      apply Array.ext'
      rw [Lib.extract_data, e, hs]
      simp [ofL]
    · rw [e, cutL_cut c b a h]
    · rw [hget _ (by omega)]; simp [e]
    · rw [hget _ (by omega)]
      have : s.data.toList[j]'(by omega) = a[j] := by simp [e, List.getElem_append_left, hj]
      rw [this]
      exact h _ (List.getElem_mem _)
/-- Where a text is cut, as one who goes from byte to byte finds it. -/
theorem cut_lim (c : UInt8) (s : ByteArray) : ∃ i, i ≤ s.size ∧ (∀ j, j < i → byteAt s j ≠ c) ∧ cutN c s = s.extract 0 i ∧ (cutN c s).size = i ∧ ((i = s.size ∧ cutV c s = ⟨#[]⟩ ∧ cutH c s = false) ∨ (i < s.size ∧ byteAt s i = c ∧ cutV c s = s.extract (i + 1) s.size ∧ cutH c s = true)) := by
  rcases cut_ways c s with ⟨_, e1, e2, e3, h⟩ | ⟨i, _, hi, e1, e2, e3, h0, h⟩
  · refine ⟨s.size, Nat.le_refl _, h, ?_, by rw [e1], .inl ⟨rfl, e2, e3⟩⟩
    rw [e1]
    apply ByteArray.ext
    apply Array.ext'
    rw [Lib.extract_data]
    have hl : s.data.toList.length = s.size := rfl
    rw [List.drop_zero, Nat.sub_zero, ← hl, List.take_length]
  · exact ⟨i, by omega, h, e1, by rw [e1, ByteArray.size_extract]; omega, .inr ⟨hi, h0, e2, e3⟩⟩
theorem u8_neN {b : UInt8} {n : Nat} (hn : n < 256) (h : b ≠ UInt8.ofNat n) : ((b.toNat : Int) != (n : Int)) = true := by
  simp only [bne_iff_ne, ne_eq, Int.ofNat_inj]
  intro e
  apply h
  apply UInt8.toNat_inj.1
  rw [e, UInt8.toNat_ofNat_of_lt' hn]
theorem u8_eqN {b : UInt8} {n : Nat} (hn : n < 256) (h : b = UInt8.ofNat n) : ((b.toNat : Int) != (n : Int)) = false := by
  subst h
  rw [UInt8.toNat_ofNat_of_lt' hn]
  simp
theorem byteAt_ix {s : ByteArray} {i : Nat} (h : i < s.size) : byteAt s i = s[i] := by simp [byteAt, List.getD, h]; rfl
end Go.Proofs.YtbonnmkkacplgaaGreatDoor

/- label.small, label.marks, label.coded, label.plain. -/
namespace Go.Proofs.YtbonnmkkacplgaaGreatDoor
open Go.RowKit

def lettersS : ByteArray := ⟨#[97, 98, 99, 100, 101, 102, 103, 104, 105, 106, 107, 108, 109, 110, 111, 112, 113, 114, 115, 116, 117, 118, 119, 120, 121, 122, 48, 49, 50, 51, 52, 53, 54, 55, 56, 57, 45]⟩
theorem letters_has (n : Nat) (h : n < 128) : decide (0 ≤ Lib.indexByte lettersS.data.toList (n.toUInt8)) = smallZ (n : Int) := by
  have : ∀ n : Fin 128, decide (0 ≤ Lib.indexByte lettersS.data.toList (n.1.toUInt8)) = smallZ (n.1 : Int) := by decide +kernel
  exact this ⟨n, h⟩
set_option maxHeartbeats 1600000 in
theorem label_small (c : Int) (w : World) (h1 : -9223372036854775808 ≤ c) (h2 : c ≤ 9223372036854775807) :
    Calls Tryz.prog 32 #[.int .i64 c] w fun e w' => e = .returned (.bool (smallZ c)) ∧ w = w' := by
  by_cases a : c ≥ 0
  · by_cases b : c < 128
    · obtain ⟨n, rfl⟩ : ∃ n : Nat, c = n := ⟨c.toNat, by omega⟩
      have hI := Lib.hid (fun W => Tryz.strings_IndexByte lettersS (n : Int) W)
      have hx := letters_has n (by omega)
      have e0 : ((n : Int).toNat.toUInt8) = n.toUInt8 := by simp
      rw [e0] at hI
      generalize Lib.indexByte lettersS.data.toList n.toUInt8 = ix at *
      have e1 : IntKind.u8.wrap (n : Int) = (n : Int) := IntWalk.u8_in _ ⟨by omega, by omega⟩
      have HX := Lib.hid hx
      clear hx e0
      go_enter Tryz.func32, Tryz.ntmps32
      go_wp2_with fail
      refine (hI.out _).mono ?_
      rintro e w2 ⟨rfl, hw2⟩
      obtain rfl := hw2.symm
      go_wp2_with fail
      go_ret
      exact ⟨ret_bool HX.out, rfl⟩
    · have HX := Lib.hid (show smallZ c = false from decide_eq_false (by omega))
      go_enter Tryz.func32, Tryz.ntmps32
      go_wp2_with fail
      go_ret
      exact ⟨ret_bool HX.out.symm, rfl⟩
  · have HX := Lib.hid (show smallZ c = false from decide_eq_false (by omega))
    go_enter Tryz.func32, Tryz.ntmps32
    go_wp2_with fail
    go_ret
    exact ⟨ret_bool HX.out.symm, rfl⟩
set_option maxHeartbeats 1600000 in
theorem ref10_small (c : Int) (w : World) (h1 : -9223372036854775808 ≤ c) (h2 : c ≤ 9223372036854775807) :
    Calls Tryz.prog 39 #[.int .i64 c] w fun e w' => e = .returned (.bool (smallZ c)) ∧ w = w' := by
  have HX := Lib.hid (show ∀ b : Bool, ((((97 ≤ c ∧ c ≤ 122) ∨ (48 ≤ c ∧ c ≤ 57) ∨ c = 45) ↔ b = true)) → smallZ c = b from fun b h => by
    unfold smallZ
    cases b
    · exact decide_eq_false fun hh => by cases h.1 hh
    · exact decide_eq_true (h.2 rfl))
  by_cases a : c ≥ 97
  · by_cases b : c ≤ 122
    · go_enter Tryz.func39, Tryz.ntmps39
      go_wp2_with fail
      go_ret
      exact ⟨ret_bool (HX.out true (by simp; omega)).symm, rfl⟩
    · have n1 : c ≥ 48 := by omega
      have n2 : ¬ c ≤ 57 := by omega
      have n3 : (c == 45) = false := by rw [beq_eq_false_iff_ne]; omega
      go_enter Tryz.func39, Tryz.ntmps39
      go_wp2_with fail
      go_ret
      exact ⟨ret_bool (HX.out false (by simp; omega)).symm, rfl⟩
  · by_cases b : c ≥ 48
    · by_cases d : c ≤ 57
      · go_enter Tryz.func39, Tryz.ntmps39
        go_wp2_with fail
        go_ret
        exact ⟨ret_bool (HX.out true (by simp; omega)).symm, rfl⟩
      · have n3 : (c == 45) = false := by rw [beq_eq_false_iff_ne]; omega
        go_enter Tryz.func39, Tryz.ntmps39
        go_wp2_with fail
        go_ret
        exact ⟨ret_bool (HX.out false (by simp; omega)).symm, rfl⟩
    · by_cases d : c = 45
      · have n3 : (c == 45) = true := by rw [beq_iff_eq]; exact d
        have HV := Lib.hid (HX.out true (by simp; omega))
        clear d
        go_enter Tryz.func39, Tryz.ntmps39
        go_wp2_with fail
        go_ret
        exact ⟨ret_bool HV.out.symm, rfl⟩
      · have n3 : (c == 45) = false := by rw [beq_eq_false_iff_ne]; exact d
        have HV := Lib.hid (HX.out false (by simp; omega))
        go_enter Tryz.func39, Tryz.ntmps39
        go_wp2_with fail
        go_ret
        exact ⟨ret_bool HV.out.symm, rfl⟩
set_option maxHeartbeats 1600000 in
theorem label_coded (s : ByteArray) (w : World) (hs : s.size ≤ 1000000) :
    Calls Tryz.prog 43 #[.string s] w fun e w' => e = .returned (.bool (codedB s)) ∧ w = w' := by
  by_cases h4 : 4 ≤ s.size
  · have h4I : (s.size : Int) ≥ 4 := by omega
    have hx : ((s.extract 2 4).toList == [45, 45]) = codedB s := by
      have e : (s.extract 2 4).toList = [byteAt s 2, byteAt s 3] := by
        rw [ByteArray.toList_eq]
        have hl : s.data.toList.length = s.size := rfl
        apply List.ext_getElem
        · simp; omega
        · intro j h1 h2
          match j, h2 with
          | 0, _ => simp [byteAt, List.getD]; rw [Array.getElem?_eq_getElem (show 2 < s.data.size by show 2 < s.size; omega)]; rfl
          | 1, _ => simp [byteAt, List.getD]; rw [Array.getElem?_eq_getElem (show 3 < s.data.size by show 3 < s.size; omega)]; rfl
      rw [e]
      unfold codedB
      by_cases a : byteAt s 2 = 45 <;> by_cases b : byteAt s 3 = 45 <;> simp [a, b, h4]
    have HX := Lib.hid hx
    generalize codedB s = r at *
    clear hx
    go_enter Tryz.func43, Tryz.ntmps43
    go_wp2_with fail
    go_ret
    exact ⟨ret_bool HX.out, rfl⟩
  · have h4I : ¬ (s.size : Int) ≥ 4 := by omega
    have HX := Lib.hid (show codedB s = false from decide_eq_false (by omega))
    go_enter Tryz.func43, Tryz.ntmps43
    go_wp2_with fail
    go_ret
    exact ⟨ret_bool HX.out.symm, rfl⟩
end Go.Proofs.YtbonnmkkacplgaaGreatDoor

/- label.marks, label.plain. -/
namespace Go.Proofs.YtbonnmkkacplgaaGreatDoor
open Go.RowKit

theorem marks_yes {l : List Nat} (h : 0 < l.length) (h0 : l.getD 0 0 ≠ 45) (h1 : l.getD (l.length - 1) 0 ≠ 45) (h2 : l.length < 4 ∨ l.getD 2 0 ≠ 45 ∨ l.getD 3 0 ≠ 45) : marksL l = true := decide_eq_true ⟨h, h0, h1, h2⟩
theorem marks_no {l : List Nat} (h : ¬ (0 < l.length ∧ l.getD 0 0 ≠ 45 ∧ l.getD (l.length - 1) 0 ≠ 45 ∧ (l.length < 4 ∨ l.getD 2 0 ≠ 45 ∨ l.getD 3 0 ≠ 45))) : marksL l = false := decide_eq_false h
theorem OwnN.getD {w : World} {base : Nat} {a : Option Addr} {n c : Nat} {l : List Nat} (h : OwnN w base (.slice a n c) l) (h0 : 0 < l.length) : ∃ g, a = some ⟨g, 0, none⟩ ∧ l.length ≤ c ∧ c ≤ maxLen ∧ ∀ j, j < l.length → w.cell? ⟨g, j, none⟩ = some (.int .i64 ((l.getD j 0 : Nat) : Int)) := by
  obtain ⟨g, rfl, _, _, h1, h2, _⟩ := h.cellAt h0
  refine ⟨g, rfl, h1, h2, fun j hj => ?_⟩
  obtain ⟨g', e, _, _, _, _, hc⟩ := h.cellAt hj
  cases e
  rw [hc]
  simp [List.getD, hj]
theorem beq45 (n : Nat) : ((n : Int) == 45) = decide (n = 45) := by
  by_cases h : n = 45
  · subst h; rfl
  · rw [decide_eq_false h, beq_eq_false_iff_ne]; omega
theorem bne45 (n : Nat) : ((n : Int) != 45) = !decide (n = 45) := by
  by_cases h : n = 45
  · subst h; rfl
  · rw [decide_eq_false h]; show (!((n : Int) == 45)) = _; rw [beq45, decide_eq_false h]
set_option maxHeartbeats 6400000 in
set_option maxRecDepth 100000 in
theorem label_marks (a : Option Addr) (c : Nat) (base : Nat) (l : List Nat) (w : World) (ho : OwnN w base (.slice a l.length c) l) (hl : l.length ≤ 1000000) :
    Calls Tryz.prog 35 #[.slice a l.length c] w fun e w' => e = .returned (.bool (marksL l)) ∧ w = w' := by
  by_cases h0 : 0 < l.length
  · obtain ⟨g, rfl, hc1, hc2, hc⟩ := ho.getD h0
    unfold maxLen at hc2
    have d0 := hc 0 h0
    have dl := hc (l.length - 1) (by omega)
    have e0 : ((l.length : Int) == 0) = false := by rw [beq_eq_false_iff_ne]; omega
    have el : (l.length : Int) - 1 = ((l.length - 1 : Nat) : Int) := by omega
    have hn0 : 0 < l.length := h0
    have hM := fun h0 h1 h2 => marks_yes (l := l) hn0 h0 h1 h2
    have hN := fun h => marks_no (l := l) h
    have HM := Lib.hid hM
    have HN := Lib.hid hN
    have HC := Lib.hid hc
    clear hM hN ho hc
    by_cases a0 : l.getD 0 0 = 45
    · have b0 : (((l.getD 0 0 : Nat) : Int) == 45) = true := by rw [beq45, decide_eq_true a0]
      have HV := Lib.hid (HN.out (fun h => h.2.1 a0))
      clear a0
      generalize l.getD 0 0 = x0 at *
      generalize l.getD (l.length - 1) 0 = xl at *
      generalize l.length = n at *
      go_enter Tryz.func35, Tryz.ntmps35
      go_wp2_with fail
      go_ret
      exact ⟨ret_bool HV.out.symm, rfl⟩
    have b0 : (((l.getD 0 0 : Nat) : Int) == 45) = false := by rw [beq45, decide_eq_false a0]
    by_cases a1 : l.getD (l.length - 1) 0 = 45
    · have b1 : (((l.getD (l.length - 1) 0 : Nat) : Int) == 45) = true := by rw [beq45, decide_eq_true a1]
      have HV := Lib.hid (HN.out (fun h => h.2.2.1 a1))
      clear a0 a1
      generalize l.getD 0 0 = x0 at *
      generalize l.getD (l.length - 1) 0 = xl at *
      generalize l.length = n at *
      go_enter Tryz.func35, Tryz.ntmps35
      go_wp2_with fail
      go_ret
      exact ⟨ret_bool HV.out.symm, rfl⟩
    have b1 : (((l.getD (l.length - 1) 0 : Nat) : Int) == 45) = false := by rw [beq45, decide_eq_false a1]
    by_cases h4 : l.length < 4
    · have h4I : (l.length : Int) < 4 := by omega
      have HV := Lib.hid (HM.out a0 a1 (.inl h4))
      clear a0 a1
      generalize l.getD 0 0 = x0 at *
      generalize l.getD (l.length - 1) 0 = xl at *
      generalize l.length = n at *
      go_enter Tryz.func35, Tryz.ntmps35
      go_wp2_with fail
      go_ret
      exact ⟨ret_bool HV.out.symm, rfl⟩
    have h4I : ¬ (l.length : Int) < 4 := by omega
    have d2 := HC.out 2 (by omega)
    have d3 := HC.out 3 (by omega)
    by_cases a2 : l.getD 2 0 = 45
    · have b2 : (((l.getD 2 0 : Nat) : Int) != 45) = false := by rw [bne45, decide_eq_true a2]; rfl
      by_cases a3 : l.getD 3 0 = 45
      · have b3 : (((l.getD 3 0 : Nat) : Int) != 45) = false := by rw [bne45, decide_eq_true a3]; rfl
        have HV := Lib.hid (HN.out (fun h => by
          rcases h.2.2.2 with h | h | h
          · exact h4 h
          · exact h a2
          · exact h a3))
        clear a0 a1 a2 a3
        generalize l.getD 0 0 = x0 at *
        generalize l.getD 2 0 = x2 at *
        generalize l.getD 3 0 = x3 at *
        generalize l.getD (l.length - 1) 0 = xl at *
        generalize l.length = n at *
        go_enter Tryz.func35, Tryz.ntmps35
        go_wp2_with fail
        go_ret
        exact ⟨ret_bool HV.out.symm, rfl⟩
      · have b3 : (((l.getD 3 0 : Nat) : Int) != 45) = true := by rw [bne45, decide_eq_false a3]; rfl
        have HV := Lib.hid (HM.out a0 a1 (.inr (.inr a3)))
        clear a0 a1 a2 a3
        generalize l.getD 0 0 = x0 at *
        generalize l.getD 2 0 = x2 at *
        generalize l.getD 3 0 = x3 at *
        generalize l.getD (l.length - 1) 0 = xl at *
        generalize l.length = n at *
        go_enter Tryz.func35, Tryz.ntmps35
        go_wp2_with fail
        go_ret
        exact ⟨ret_bool HV.out.symm, rfl⟩
    · have b2 : (((l.getD 2 0 : Nat) : Int) != 45) = true := by rw [bne45, decide_eq_false a2]; rfl
      have HV := Lib.hid (HM.out a0 a1 (.inr (.inl a2)))
      clear a0 a1 a2
      generalize l.getD 0 0 = x0 at *
      generalize l.getD 2 0 = x2 at *
      generalize l.getD 3 0 = x3 at *
      generalize l.getD (l.length - 1) 0 = xl at *
      generalize l.length = n at *
      go_enter Tryz.func35, Tryz.ntmps35
      go_wp2_with fail
      go_ret
      exact ⟨ret_bool HV.out.symm, rfl⟩
  · have hz : l.length = 0 := by omega
    have HV := Lib.hid (marks_no (l := l) (fun h => h0 h.1))
    have e0 : ((l.length : Int) == 0) = true := by rw [hz]; rfl
    clear h0 ho hz
    generalize l.length = n at *
    go_enter Tryz.func35, Tryz.ntmps35
    go_wp2_with fail
    go_ret
    exact ⟨ret_bool HV.out.symm, rfl⟩
set_option maxHeartbeats 1600000 in
set_option maxRecDepth 100000 in
theorem label_plain (a : Option Addr) (c : Nat) (base : Nat) (l : List Nat) (w : World) (ho : OwnN w base (.slice a l.length c) l) (hl : l.length ≤ 1000000) :
    Calls Tryz.prog 31 #[.slice a l.length c] w fun e w' => e = .returned (.bool (!wideL l)) ∧ ∃ q, w.drewN q = w' := by
  have hstep : ∀ i, i < l.length → wideL (l.take i) = false → wideL (l.take (i + 1)) = decide (128 ≤ l.getD i 0) := fun i hi h => by
    have e : l.take (i + 1) = l.take i ++ [l.getD i 0] := by rw [List.take_succ_eq_append_getElem hi]; simp [List.getD, hi]
    unfold wideL at h ⊢
    rw [e, List.any_append, h]
    simp
  have hmono : ∀ i, wideL (l.take i) = true → wideL l = true := fun i h => by
    unfold wideL at h ⊢
    obtain ⟨x, hx, h2⟩ := List.any_eq_true.1 h
    exact List.any_eq_true.2 ⟨x, List.mem_of_mem_take hx, h2⟩
  have hall : wideL (l.take l.length) = wideL l := by rw [List.take_length]
  have HST := Lib.hid hstep
  have HMO := Lib.hid hmono
  have HAL := Lib.hid hall
  have HO := Lib.hid ho
  clear hstep hmono hall ho
  go_enter Tryz.func31, Tryz.ntmps31
  go_wp2_with fail
  go_loopw [7] (fun v wr => ∃ i n : Nat, i ≤ l.length ∧ v = .int .i64 i ∧ wideL (l.take i) = false ∧ w.drewN n = wr) (fun v _ => l.length - (intOf v).toNat)
  case atStart => exact ⟨0, 0, Nat.zero_le _, rfl, rfl, rfl⟩
  case round =>
    obtain ⟨i, n, hil, rfl, hw, hwr⟩ := hrel
    have HW := Lib.hid hwr
    by_cases hlt : i < l.length
    · obtain ⟨g, rfl, hc1, hc2, hc⟩ := (show OwnN wr base (.slice a l.length c) l by rw [← hwr]; exact HO.out.below (below_drewN (Below.refl _ _) n)).getD (by omega)
      have d0 := hc i hlt
      have hs := HST.out i hlt hw
      have hiI : (i : Int) < (l.length : Int) := by omega
      unfold maxLen at hc2
      clear hc hw hwr
      by_cases h128 : 128 ≤ l.getD i 0
      · rw [decide_eq_true h128] at hs
        have HV := Lib.hid (HMO.out _ hs)
        have h1 : ((l.getD i 0 : Nat) : Int) ≥ 128 := by omega
        clear hs h128
        generalize l.getD i 0 = x at *
        go_wp2_with fail
        go_ret
        exact ⟨ret_bool (by rw [HV.out]; rfl), _, HW.out⟩
      · rw [decide_eq_false h128] at hs
        have HS := Lib.hid hs
        have h1 : ¬ ((l.getD i 0 : Nat) : Int) ≥ 128 := by omega
        clear hs h128
        generalize l.getD i 0 = x at *
        go_wp2_with fail
        go_roundw
        case rel => exact ⟨i + 1, _, by omega, by go_num, HS.out, by first | exact HW.out | rw [← HW.out, World.drewN_drewN]⟩
        case measure => simp [intOf]; omega
    · obtain rfl : i = l.length := by omega
      have hiI : ¬ (l.length : Int) < (l.length : Int) := by omega
      have HV := Lib.hid (HAL.out.symm.trans hw)
      clear hw hwr
      go_wp2_with fail
      go_ret
      exact ⟨ret_bool (by rw [HV.out]; rfl), _, HW.out⟩
end Go.Proofs.YtbonnmkkacplgaaGreatDoor

/- Where a call's own bytes grow, what stood before stands. -/
namespace Go.Proofs.YtbonnmkkacplgaaGreatDoor
open Go.RowKit

theorem OwnB.under {w0 w w' : World} {base : Nat} {v : Value} {l : List UInt8} (h : OwnB w base v l) (hb : Below w0.heap.size w0 w) (hB : w0.heap.size ≤ base) (hg : w.grownBy w' v.ownBlock) : Below w0.heap.size w0 w' :=
  hb.grown hg hb.size (fun j hj => Nat.le_trans hB (World.ownsRow.lt h j hj).1)
theorem row_len {w : World} {base : Nat} {e : TypeId} {size : Nat} {v : Value} {n : Nat} {xs : List Value} (h : w.ownsRow base e size v n xs) : ∃ a cap, v = .slice a n cap := by
  rcases h.2 with ⟨h0, h1⟩ | ⟨g, cap, cur, rfl, _⟩
  · exact ⟨none, 0, by rw [h0, h1]⟩
  · exact ⟨_, _, rfl⟩
end Go.Proofs.YtbonnmkkacplgaaGreatDoor
