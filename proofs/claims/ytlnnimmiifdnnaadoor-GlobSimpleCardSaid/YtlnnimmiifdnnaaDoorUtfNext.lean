/- utf.Next: the character at a place. -/
import Derived.Test.YtlnnimmiifdnnaaDoorUtfPlain
import Derived.Test.YtlnnimmiifdnnaaDoorLaid
import Derived.Test.YtlnnimmiifdnnaaDoorBytes
import Derived.Test.YtlnnimmiifdnnaaDoorApi
import Derived.Test.YtlnnimmiifdnnaaDoorShelf
namespace Go.Proofs.YtlnnimmiifdnnaaDoor
open Go.RowKit

theorem utf8_DecodeRune (s : ByteArray) (i b off cap : Nat) (w : World) (hU : Utf8Laid w) (hi : i < s.size) (hp : BytesIn w b off s) :
    Calls Tryd.prog 49 #[.slice (some ⟨b, off + i, none⟩) (s.size - i) cap] w fun e w' => e = .returned (.tuple #[.int .i32 ((decB s i).1 : Int), .int .i64 ((decB s i).2 : Int)]) ∧ Below w.heap.size w w' := by
  have hsz := extract_tail_size s i (by omega)
  have h := Any7.utf8_DecodeRune Tryd.lays7n32 (s.extract i s.size) b (off + i) cap w hU (fun j hj => by
    rw [byteAt_get, Nat.add_assoc, byteAt_extract s i j (by omega)]
    exact hp (i + j) (by omega))
  rw [decodeGo_extract s i hi, hsz] at h
  exact h

def NextPost (s : ByteArray) (i : Nat) (w : World) (e : Ending) (w' : World) : Prop :=
  Below w.heap.size w w' ∧ ((okB s i = true ∧ e = .returned (.tuple #[.int .i64 ((decB s i).1 : Int), .int .i64 ((decB s i).2 : Int), .nilIface])) ∨
    (okB s i = false ∧ ∃ v, e = .returned (.tuple #[.int .i64 0, .int .i64 0, v]) ∧ IsFault w' v 12 i))

set_option maxHeartbeats 1600000 in
set_option maxRecDepth 100000 in
theorem utf_Next (s : ByteArray) (i b off cap : Nat) (w : World) (hU : Utf8Laid w) (hi : i < s.size) (hc : s.size ≤ cap) (_ : cap ≤ 9223372036854775807) (hp : BytesIn w b off s) :
    Calls Tryd.prog 39 #[.slice (some ⟨b, off, none⟩) s.size cap, .int .i64 (i : Int)] w (NextPost s i w) := by
  obtain ⟨hd1, hd2, hd3, hd4⟩ := decB_bounds s i hi
  have hd5 : (decB s i).1 ≤ 1114111 := by unfold rightC at hd4; omega
  have hok : okB s i = decide (decB s i ≠ (65533, 1)) := rfl
  have hD := Lib.hid (show decB s i = ((decB s i).1, (decB s i).2) from rfl)
  generalize hc1 : (decB s i).1 = c at *
  generalize hn1 : (decB s i).2 = n at *
  have HC := Lib.hid hc1
  have HN := Lib.hid hn1
  have HOK := Lib.hid hok
  clear hc1 hn1 hok hd4
  have hnb : (i : Int) ≤ (s.size : Int) := by omega
  go_enter Tryd.func39, Tryd.ntmps39
  go_wp2_with fail
  refine (utf8_DecodeRune s i b off _ _ hU hi hp).mono ?_
  rintro e w1 ⟨rfl, hb1⟩
  rw [HC.out, HN.out]
  by_cases hc0 : c = 65533
  · by_cases hn0 : n = 1
    · subst hc0 hn0
      go_wp2_with fail
      refine (api_Fail' _ _ _).mono ?_
      rintro e w3 ⟨v, rfl, hv, hb3⟩
      go_wp2_with fail
      go_ret3
      exact ⟨Bt hb1 hb3, .inr ⟨by rw [HOK.out, hD.out]; rfl, v, rfl, hv⟩⟩
    · subst hc0
      have e2 : ((n : Int) == 1) = false := by rw [beq_eq_false_iff_ne]; omega
      go_wp2_with fail
      go_ret3
      exact ⟨hb1, .inl ⟨by rw [HOK.out, hD.out]; simp [hn0], by rw [HC.out, HN.out]; rfl⟩⟩
  · have e1 : ((c : Int) == 65533) = false := by rw [beq_eq_false_iff_ne]; omega
    go_wp2_with fail
    go_ret3
    exact ⟨hb1, .inl ⟨by rw [HOK.out, hD.out]; simp [hc0], by rw [HC.out, HN.out]; rfl⟩⟩

set_option maxHeartbeats 1600000 in
theorem utf_Next_arg (a : Option Addr) (len cap : Nat) (i : Int) (w : World) (hi : i < 0 ∨ (len : Int) < i) :
    Calls Tryd.prog 39 #[.slice a len cap, .int .i64 i] w fun e w' => ∃ v, e = .returned (.tuple #[.int .i64 0, .int .i64 0, v]) ∧ IsFault w' v 1 i ∧ Below w.heap.size w w' := by
  rcases hi with hi | hi
  all_goals
    go_enter Tryd.func39, Tryd.ntmps39
    go_wp2_with fail
    refine (api_Fail' _ _ _).mono ?_
    rintro e w3 ⟨v, rfl, hv, hb3⟩
    go_wp2_with fail
    go_ret3
    exact ⟨v, rfl, hv, hb3⟩

theorem utf_Next_end (a : Option Addr) (len cap : Nat) (w : World) (_ : len ≤ 9223372036854775807) :
    Calls Tryd.prog 39 #[.slice a len cap, .int .i64 (len : Int)] w fun e w' => ∃ v, e = .returned (.tuple #[.int .i64 0, .int .i64 0, v]) ∧ IsFault w' v 10 len ∧ Below w.heap.size w w' := by
  go_enter Tryd.func39, Tryd.ntmps39
  go_wp2_with fail
  refine (api_Fail' _ _ _).mono ?_
  rintro e w3 ⟨v, rfl, hv, hb3⟩
  go_wp2_with fail
  go_ret3
  exact ⟨v, rfl, hv, hb3⟩
end Go.Proofs.YtlnnimmiifdnnaaDoor
