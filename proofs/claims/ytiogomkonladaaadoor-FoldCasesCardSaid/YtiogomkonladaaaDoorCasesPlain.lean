/- Plain facts: great letters, blanks around a text. -/
import Derived.Test.YtiogomkonladaaaDoorLowerPlain
import Derived.Test.YtiogomkonladaaaDoorTrimPlain
namespace Go.Proofs.YtiogomkonladaaaDoor
open Go.RowKit

def greatB (b : UInt8) : UInt8 := if 97 ≤ b.toNat ∧ b.toNat ≤ 122 then b - 32 else b
theorem greatB_nat (b : UInt8) (h1 : 97 ≤ b.toNat) (h2 : b.toNat ≤ 122) : (greatB b).toNat = b.toNat - 32 := by
  unfold greatB
  rw [if_pos ⟨h1, h2⟩]
  rw [UInt8.toNat_sub_of_le _ _ (by rw [UInt8.le_iff_toNat_le]; show 32 ≤ _; omega)]
  rfl
theorem low_great (b : UInt8) : lowerB (greatB b) = lowerB b := by
  have : ∀ n : Fin 256, lowerB (greatB (UInt8.ofNat n.1)) = lowerB (UInt8.ofNat n.1) := by decide +kernel
  have h := this ⟨b.toNat, b.toNat_lt⟩
  simpa using h
def greatL (l : List UInt8) : List UInt8 := l.map greatB
def greatS (s : ByteArray) : ByteArray := ⟨(greatL s.data.toList).toArray⟩
theorem greatS_size (s : ByteArray) : (greatS s).size = s.size := by
  show (greatL s.data.toList).toArray.size = s.data.toList.length
  simp [greatL]
theorem lowerS_great (s : ByteArray) : lowerS (greatS s) = lowerS s := by
  unfold lowerS lowerL greatS greatL
  apply ByteArray.ext
  apply Array.ext'
  show (s.data.toList.map greatB).map lowerB = s.data.toList.map lowerB
  rw [List.map_map]
  exact List.map_congr_left fun x _ => low_great x
/-- So far great letters. -/
def greatTo (s : ByteArray) (i : Nat) : List UInt8 := greatL (s.data.toList.take i) ++ s.data.toList.drop i
theorem greatTo_len (s : ByteArray) (i : Nat) : (greatTo s i).length = s.size := by
  have hl : s.data.toList.length = s.size := rfl
  simp [greatTo, greatL]; omega
theorem greatTo_zero (s : ByteArray) : greatTo s 0 = s.data.toList := by simp [greatTo, greatL]
theorem greatTo_all (s : ByteArray) : greatTo s s.size = (greatS s).data.toList := by
  have hl : s.data.toList.length = s.size := rfl
  show greatL (s.data.toList.take s.size) ++ s.data.toList.drop s.size = greatL s.data.toList
  rw [List.take_of_length_le (by omega), List.drop_eq_nil_of_le (by omega), List.append_nil]
theorem greatTo_at {s : ByteArray} {i : Nat} (hi : i < s.size) : (greatTo s i).getD i 0 = byteAt s i := by
  have hl : s.data.toList.length = s.size := rfl
  have h1 : (greatL (s.data.toList.take i)).length = i := by simp [greatL]; omega
  unfold greatTo byteAt
  simp only [List.getD, List.getElem?_append, h1, Nat.lt_irrefl, if_false, Nat.sub_self, List.getElem?_drop, Nat.add_zero]
theorem greatTo_set {s : ByteArray} {i : Nat} (hi : i < s.size) : (greatTo s i).set i (greatB (byteAt s i)) = greatTo s (i + 1) := by
  have hl : s.data.toList.length = s.size := rfl
  have hlt : i < s.data.toList.length := by omega
  have h1 : (greatL (s.data.toList.take i)).length = i := by simp [greatL]; omega
  have hb : byteAt s i = s.data.toList[i] := by unfold byteAt; rw [List.getD, List.getElem?_eq_getElem hlt]; rfl
  unfold greatTo
  rw [List.set_append_right _ _ (by rw [h1]; exact Nat.le_refl _), h1, Nat.sub_self, List.drop_eq_getElem_cons hlt, List.set_cons_zero, List.take_succ_eq_append_getElem hlt, hb]
  simp [greatL]
theorem greatTo_keep {s : ByteArray} {i : Nat} (hi : i < s.size) (h : greatB (byteAt s i) = byteAt s i) : greatTo s (i + 1) = greatTo s i := by
  rw [← greatTo_set hi, h]
  have h2 := greatTo_at hi
  have hll : i < (greatTo s i).length := by rw [greatTo_len]; exact hi
  apply List.ext_getElem?
  intro j
  rw [List.getElem?_set]
  split
  · rename_i e
    subst e
    rw [← h2, List.getD, List.getElem?_eq_getElem hll]; rfl
  · rfl

theorem dropWhile_pre (p : UInt8 → Bool) (a b : List UInt8) (h : ∀ x ∈ a, p x = true) : (a ++ b).dropWhile p = b.dropWhile p := by
  induction a with
  | nil => rfl
  | cons x a ih =>
    rw [List.cons_append, List.dropWhile_cons_of_pos (h x (by simp))]
    exact ih fun y hy => h y (by simp [hy])
theorem dropWhile_post (p : UInt8 → Bool) (a b : List UInt8) (h : ∀ x ∈ b, p x = true) : (a ++ b).dropWhile p = if a.dropWhile p = [] then [] else a.dropWhile p ++ b := by
  rw [List.dropWhile_append]
  by_cases he : a.dropWhile p = []
  · rw [if_pos (by rw [he]; rfl), if_pos he]
    have := dropWhile_pre p b [] h
    simpa using this
  · rw [if_neg (by rw [List.isEmpty_iff]; exact he), if_neg he]
theorem trim_around (cs p l : List UInt8) (h : ∀ x ∈ p, cs.contains x = true) : Lib.trimS (p ++ l ++ p) cs = Lib.trimS l cs := by
  unfold Lib.trimS Lib.trimLeftS Lib.trimRightS
  rw [List.reverse_append, List.reverse_append, dropWhile_pre _ _ _ (fun x hx => h x (by simpa using hx)), dropWhile_post _ _ _ (fun x hx => h x (by simpa using hx))]
  split
  · rename_i e
    rw [e]
  · rw [List.reverse_append, List.reverse_reverse, dropWhile_pre _ _ _ h]
theorem trim_all (cs p : List UInt8) (h : ∀ x ∈ p, cs.contains x = true) : Lib.trimS p cs = [] := by
  unfold Lib.trimS Lib.trimRightS
  have := dropWhile_pre (cs.contains ·) p.reverse [] (fun x hx => h x (by simpa using hx))
  rw [List.append_nil] at this
  rw [this]
  rfl
def padS : ByteArray := ⟨#[32, 9, 10, 13, 32, 9, 10, 13]⟩
theorem pad_blank (m : Nat) : ∀ x ∈ (padS.extract 0 m).data.toList, ([32, 9, 10, 13] : List UInt8).contains x = true := by
  intro x hx
  rw [Lib.extract_data] at hx
  have := List.mem_of_mem_drop (List.mem_of_mem_take hx)
  have h8 : ∀ y ∈ padS.data.toList, ([32, 9, 10, 13] : List UInt8).contains y = true := by decide
  exact h8 x this
theorem trim_pad (m : Nat) : trimS (padS.extract 0 m) = ByteArray.empty := by
  unfold trimS
  rw [trim_all _ _ (pad_blank m)]
  rfl
theorem trim_padded (m : Nat) (s : ByteArray) : trimS (padS.extract 0 m ++ s ++ padS.extract 0 m) = trimS s := by
  unfold trimS
  rw [ByteArray.data_append, ByteArray.data_append]
  simp only [Array.toList_append]
  rw [trim_around _ _ _ (pad_blank m)]
theorem and7 (n : Nat) (h : n < 256) : bits .and .u8 (n : Int) 7 = ((n % 8 : Nat) : Int) := by
  have : ∀ n : Fin 256, bits .and .u8 (n.1 : Int) 7 = ((n.1 % 8 : Nat) : Int) := by decide +kernel
  exact this ⟨n, h⟩
end Go.Proofs.YtiogomkonladaaaDoor
