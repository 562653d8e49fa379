/- Plain facts: a text without blanks around it. -/
import Derived.Test.YtiogomkonladaaaDoorStrs
import Derived.Lib.SlTrimSet
namespace Go.Proofs.YtiogomkonladaaaDoor
open Go.RowKit

def blanks : ByteArray := ⟨#[32, 9, 10, 13]⟩
theorem blanks_has (c : UInt8) : ([32, 9, 10, 13] : List UInt8).contains c = hasB blanks c := by
  have : ∀ n : Fin 256, ([32, 9, 10, 13] : List UInt8).contains (UInt8.ofNat n.1) = hasB blanks (UInt8.ofNat n.1) := by decide +kernel
  have h := this ⟨c.toNat, c.toNat_lt⟩
  simpa using h
/-- A text without blanks around it. -/
def trimS (s : ByteArray) : ByteArray := ⟨(Lib.trimS s.data.toList [32, 9, 10, 13]).toArray⟩

theorem at_byte {s : ByteArray} {j : Nat} {b : UInt8} (h : s.data.toList[j]? = some b) : j < s.size ∧ byteAt s j = b := by
  have hl : s.data.toList.length = s.size := rfl
  have hlt := (List.getElem?_eq_some_iff.1 h).1
  refine ⟨by omega, ?_⟩
  unfold byteAt
  rw [List.getD, h]; rfl

theorem trim_is {s : ByteArray} {a b : Nat} (hab : a ≤ b) (hb : b ≤ s.size) (h1 : ∀ j, j < a → hasB blanks (byteAt s j) = true) (h2 : ∀ j, b ≤ j → j < s.size → hasB blanks (byteAt s j) = true)
    (h3 : a < b → hasB blanks (byteAt s a) = false) (h4 : a < b → hasB blanks (byteAt s (b - 1)) = false) : trimS s = s.extract a b := by
  have hl : s.data.toList.length = s.size := rfl
  unfold trimS Lib.trimS
  rw [Lib.extract_eq]
  by_cases hlt : a < b
  · rw [Lib.trimRightS_take _ _ b (by omega) (fun j c hj hc => by
      obtain ⟨h5, h6⟩ := at_byte hc
      rw [blanks_has, ← h6]; exact h2 j hj h5) (fun c _ hc => by
      obtain ⟨h5, h6⟩ := at_byte hc
      rw [blanks_has, ← h6]; exact h4 hlt)]
    rw [Lib.trimLeftS_drop _ _ a (by simp; omega) (fun j c hj hc => by
      rw [List.getElem?_take, if_pos (by omega)] at hc
      obtain ⟨h5, h6⟩ := at_byte hc
      rw [blanks_has, ← h6]; exact h1 j hj) (fun c hc => by
      rw [List.getElem?_take, if_pos hlt] at hc
      obtain ⟨h5, h6⟩ := at_byte hc
      rw [blanks_has, ← h6]; exact h3 hlt)]
    rw [List.drop_take]
  · obtain rfl : a = b := by omega
    rw [Lib.trimRightS_take _ _ 0 (Nat.zero_le _) (fun j c hj hc => by
      obtain ⟨h5, h6⟩ := at_byte hc
      rw [blanks_has, ← h6]
      by_cases hja : j < a
      · exact h1 j hja
      · exact h2 j (by omega) h5) (fun c h0 _ => absurd h0 (Nat.lt_irrefl 0))]
    simp [Lib.trimLeftS]
end Go.Proofs.YtiogomkonladaaaDoor
