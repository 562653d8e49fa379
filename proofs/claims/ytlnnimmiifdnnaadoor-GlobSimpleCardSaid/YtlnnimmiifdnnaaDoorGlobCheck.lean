/- glob.Check, glob.small; the reference's Check, same. -/
import Derived.Test.YtlnnimmiifdnnaaDoorGlobLaw
import Derived.Test.YtlnnimmiifdnnaaDoorUtfChars
import Derived.Test.YtlnnimmiifdnnaaDoorRefText
import Derived.Test.YtlnnimmiifdnnaaDoorConv
import Derived.Test.YtlnnimmiifdnnaaDoorSmall
namespace Go.Proofs.YtlnnimmiifdnnaaDoor
open Go.RowKit

/-- What is wrong with a pattern: the error's number, its place. -/
def chkP (p : ByteArray) : Nat × Nat := if 1024 < p.size then (14, 1024) else match (chrs p).2 with
  | none => (0, 0)
  | some i => (12, i)
theorem chkP_ok (p : ByteArray) : (chkP p).1 = 0 ↔ okP p = true := by
  unfold chkP okP
  by_cases h : 1024 < p.size
  · rw [if_pos h]; simp; omega
  · rw [if_neg h]
    cases hx : (chrs p).2 with
    | none => simp; omega
    | some i => simp

theorem IsFault.isErr {w : World} {v : Value} {k i : Nat} (h : IsFault w v (k : Int) (i : Int)) (hk : k ≠ 0) : IsErr w v k i := .inr ⟨hk, _, h⟩

def CheckPost (p : ByteArray) (w : World) (e : Ending) (w' : World) : Prop := Below w.heap.size w w' ∧ ((okP p = true ∧ chkP p = (0, 0) ∧ e = .returned .nilIface) ∨ (okP p = false ∧ (chkP p).1 ≠ 0 ∧ ∃ v, e = .returned v ∧ IsFault w' v (chkP p).1 (chkP p).2))

set_option maxHeartbeats 800000 in
theorem glob_Check (p : ByteArray) (w : World) (hU : Utf8Laid w) (hp : p.size ≤ 16777216) : Calls Tryd.prog 22 #[.string p] w (CheckPost p w) := by
  by_cases hlong : 1024 < p.size
  · have h1 : chkP p = (14, 1024) := by unfold chkP; rw [if_pos hlong]
    have h2 : okP p = false := by unfold okP; rw [decide_eq_false (by omega), Bool.false_and]
    have H1 := Lib.hid h1
    have H2 := Lib.hid h2
    clear h1 h2
    go_enter Tryd.func22, Tryd.ntmps22
    go_wp2_with fail
    refine (api_Fail' 14 1024 _).mono ?_
    rintro e w1 ⟨v, rfl, hv, hb⟩
    go_wp2_with fail
    go_ret
    exact ⟨hb, .inr ⟨H2.out, by rw [H1.out]; simp, v, rfl, by rw [H1.out]; exact hv⟩⟩
  · have h1 : ∀ r, (chrs p).2 = r → chkP p = match r with | none => (0, 0) | some i => (12, i) := by rintro r rfl; unfold chkP; rw [if_neg hlong]
    have h2 : ∀ r, (chrs p).2 = r → okP p = r.isNone := by rintro r rfl; unfold okP; rw [decide_eq_true (by omega), Bool.true_and]
    have H1 := Lib.hid h1
    have H2 := Lib.hid h2
    clear h1 h2
    go_enter Tryd.func22, Tryd.ntmps22
    go_wp2_with ((with_reducible refine wpList_bytes_sl rfl 9 27 5 _ rfl p rfl Tryd.underlying9 Tryd.underlying27 Tryd.underlying5 (by omega) ?_); intro v1 w1 hv1 hb1)
    have hU1 := hU.below hb1
    refine (utf_Valid v1 p _ hU1 hp hv1).mono ?_
    rintro e w2 ⟨hb2, h⟩
    have hb := Bt hb1 hb2
    rcases h with ⟨hn, rfl⟩ | ⟨i, hi, v2, rfl, hv2⟩
    · have HN := Lib.hid hn
      clear hn
      go_wp2_with fail
      go_ret
      exact ⟨hb, .inl ⟨H2.out _ HN.out, H1.out _ HN.out, rfl⟩⟩
    · have HN := Lib.hid hi
      clear hi
      go_wp2_with fail
      go_ret
      exact ⟨hb, .inr ⟨H2.out _ HN.out, by rw [H1.out _ HN.out]; simp, v2, rfl, by rw [H1.out _ HN.out]; exact hv2⟩⟩

theorem or_small (n : Nat) (h1 : 65 ≤ n) (h2 : n ≤ 90) : bits .or .i64 (n : Int) 32 = ((n + 32 : Nat) : Int) := by
  have : ∀ n : Fin 91, 65 ≤ n.1 → bits .or .i64 (n.1 : Int) 32 = ((n.1 + 32 : Nat) : Int) := by decide +kernel
  exact this ⟨n, by omega⟩ h1
theorem glob_small (c : Nat) (hc : c ≤ 1114111) (w : World) : Calls Tryd.prog 50 #[.int .i64 (c : Int)] w fun e w' => e = .returned (.int .i64 (smallC c : Nat)) ∧ w = w' := by
  by_cases h1 : 65 ≤ c
  · by_cases h2 : c ≤ 90
    · have hv := Lib.hid (show smallC c = c + 32 by unfold smallC; rw [if_pos ⟨h1, h2⟩])
      have ho := or_small c h1 h2
      go_enter Tryd.func50, Tryd.ntmps50
      go_wp2
      go_ret
      exact ⟨ret_i64 (by rw [hv.out]; first | rfl | omega), rfl⟩
    · have hv := Lib.hid (show smallC c = c by unfold smallC; rw [if_neg (by omega)])
      go_enter Tryd.func50, Tryd.ntmps50
      go_wp2
      go_ret
      exact ⟨ret_i64 (by rw [hv.out]), rfl⟩
  · have hv := Lib.hid (show smallC c = c by unfold smallC; rw [if_neg (by omega)])
    go_enter Tryd.func50, Tryd.ntmps50
    go_wp2
    go_ret
    exact ⟨ret_i64 (by rw [hv.out]), rfl⟩
end Go.Proofs.YtlnnimmiifdnnaaDoor
