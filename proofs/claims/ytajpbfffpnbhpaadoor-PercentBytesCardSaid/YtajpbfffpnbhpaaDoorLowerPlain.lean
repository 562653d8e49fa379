/- Plain facts: small letters. -/
import Derived.Test.YtajpbfffpnbhpaaDoorSmall
import Derived.Laws.BitsLemmas
namespace Go.Proofs.YtajpbfffpnbhpaaDoor
open Go.RowKit

def lowerB (b : UInt8) : UInt8 := if 65 ≤ b.toNat ∧ b.toNat ≤ 90 then b + 32 else b
theorem lowerB_nat (b : UInt8) : (lowerB b).toNat = smallN b.toNat := by
  have hb := b.toNat_lt
  unfold lowerB smallN
  split
  · rw [UInt8.toNat_add]
    simp
    omega
  · rfl
theorem lowerB_idem (b : UInt8) : lowerB (lowerB b) = lowerB b := by
  have h := lowerB_nat b
  apply UInt8.toNat_inj.1
  rw [lowerB_nat, h]
  unfold smallN
  repeat' split
  all_goals omega
theorem or_letter (n : Nat) (h1 : 65 ≤ n) (h2 : n ≤ 90) : bits .or .u8 (n : Int) 32 = ((n + 32 : Nat) : Int) := by
  have : ∀ n : Fin 91, 65 ≤ n.1 → bits .or .u8 (n.1 : Int) 32 = ((n.1 + 32 : Nat) : Int) := by decide +kernel
  exact this ⟨n, by omega⟩ h1
/-- A text with small letters. -/
def lowerL (l : List UInt8) : List UInt8 := l.map lowerB
def lowerS (s : ByteArray) : ByteArray := ⟨(lowerL s.data.toList).toArray⟩
theorem lowerS_size (s : ByteArray) : (lowerS s).size = s.size := by
  show (lowerL s.data.toList).toArray.size = s.data.toList.length
  simp [lowerL]
theorem lowerS_idem (s : ByteArray) : lowerS (lowerS s) = lowerS s := by
  unfold lowerS lowerL
  apply ByteArray.ext
  apply Array.ext'
  show (s.data.toList.map lowerB).map lowerB = s.data.toList.map lowerB
  rw [List.map_map]
  exact List.map_congr_left fun x _ => lowerB_idem x
/-- So far small letters. -/
def lowTo (s : ByteArray) (i : Nat) : List UInt8 := lowerL (s.data.toList.take i) ++ s.data.toList.drop i
theorem lowTo_len (s : ByteArray) (i : Nat) : (lowTo s i).length = s.size := by
  have hl : s.data.toList.length = s.size := rfl
  simp [lowTo, lowerL]; omega
theorem lowTo_zero (s : ByteArray) : lowTo s 0 = s.data.toList := by simp [lowTo, lowerL]
theorem lowTo_all (s : ByteArray) : lowTo s s.size = (lowerS s).data.toList := by
  have hl : s.data.toList.length = s.size := rfl
  show lowerL (s.data.toList.take s.size) ++ s.data.toList.drop s.size = lowerL s.data.toList
  rw [List.take_of_length_le (by omega), List.drop_eq_nil_of_le (by omega), List.append_nil]
theorem lowTo_at {s : ByteArray} {i : Nat} (hi : i < s.size) : (lowTo s i).getD i 0 = byteAt s i := by
  have hl : s.data.toList.length = s.size := rfl
  have h1 : (lowerL (s.data.toList.take i)).length = i := by simp [lowerL]; omega
  unfold lowTo byteAt
  simp only [List.getD, List.getElem?_append, h1, Nat.lt_irrefl, if_false, Nat.sub_self, List.getElem?_drop, Nat.add_zero]
theorem lowTo_set {s : ByteArray} {i : Nat} (hi : i < s.size) : (lowTo s i).set i (lowerB (byteAt s i)) = lowTo s (i + 1) := by
  have hl : s.data.toList.length = s.size := rfl
  have hlt : i < s.data.toList.length := by omega
  have h1 : (lowerL (s.data.toList.take i)).length = i := by simp [lowerL]; omega
  have hb : byteAt s i = s.data.toList[i] := by unfold byteAt; rw [List.getD, List.getElem?_eq_getElem hlt]; rfl
  unfold lowTo
  rw [List.set_append_right _ _ (by rw [h1]; exact Nat.le_refl _), h1, Nat.sub_self, List.drop_eq_getElem_cons hlt, List.set_cons_zero, List.take_succ_eq_append_getElem hlt, hb]
  simp [lowerL]
theorem lowTo_keep {s : ByteArray} {i : Nat} (hi : i < s.size) (h : lowerB (byteAt s i) = byteAt s i) : lowTo s (i + 1) = lowTo s i := by
  rw [← lowTo_set hi, h]
  have h2 := lowTo_at hi
  have hll : i < (lowTo s i).length := by rw [lowTo_len]; exact hi
  apply List.ext_getElem?
  intro j
  rw [List.getElem?_set]
  split
  · rename_i e
    subst e
    rw [← h2, List.getD, List.getElem?_eq_getElem hll]; rfl
  · rfl
end Go.Proofs.YtajpbfffpnbhpaaDoor
