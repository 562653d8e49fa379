/- The reference's Lead and Least of chapter 15. -/
import Derived.Test.YtlnnimmiifdnnaaDoorGlobSpeaks
import Derived.Test.YtlnnimmiifdnnaaDoorGlobRefMatch
namespace Go.Proofs.YtlnnimmiifdnnaaDoor
open Go.RowKit

set_option maxHeartbeats 1600000 in
theorem ref_Lead (p : ByteArray) (w : World) (hp : p.size ≤ 16777216) : Calls Tryd.prog 23 #[.string p] w fun e w' => e = .returned (.string (leadS p)) ∧ w = w' := by
  go_enter Tryd.func23, Tryd.ntmps23
  go_wp2_with fail
  go_loop [3] (fun x => ∃ i : Nat, i ≤ p.size ∧ x = .int .i64 i ∧ ∀ j, j < i → signB (byteAt p j) = false) (fun x => p.size - (intOf x).toNat)
  case atStart => exact ⟨0, Nat.zero_le _, rfl, fun j hj => by omega⟩
  case round =>
    obtain ⟨i, hil, rfl, hall⟩ := hrel
    have HA := Lib.hid hall
    clear hall
    by_cases hlt : i < p.size
    · have hb := byteAt_idx hlt
      have hsg := sign_eq (byteAt p i)
      rw [← hb] at hsg
      have hlead : signB p[i] = true → leadS p = p.extract 0 i := fun h => by
        have := leadN_is (Nat.le_of_lt hlt) HA.out (fun _ => hb ▸ h)
        unfold leadS; rw [this]
      have hnext : signB p[i] = false → ∀ j, j < i + 1 → signB (byteAt p j) = false := fun h j hj => by
        by_cases hji : j = i
        · rw [hji, ← hb]; exact h
        · exact HA.out j (by omega)
      have HL := Lib.hid hlead
      have HX := Lib.hid hnext
      clear hlead hnext hb
      by_cases h1 : ((p[i].toNat : Int) == 42) = true
      · have HS := Lib.hid (show signB p[i] = true by rw [hsg, h1]; rfl)
        have h1' : ((p[i].toNat : Int) != 42) = false := by unfold bne; rw [h1]; rfl
        clear hsg
        go_wp2_with fail
        go_ret
        exact ⟨ret_sub (HL.out HS.out), rfl⟩
      · have h1 : ((p[i].toNat : Int) == 42) = false := by simpa using h1
        have h1' : ((p[i].toNat : Int) != 42) = true := by unfold bne; rw [h1]; rfl
        by_cases h2 : ((p[i].toNat : Int) == 63) = true
        · have HS := Lib.hid (show signB p[i] = true by rw [hsg, h2]; simp)
          have h2' : ((p[i].toNat : Int) != 63) = false := by unfold bne; rw [h2]; rfl
          clear hsg
          go_wp2_with fail
          go_ret
          exact ⟨ret_sub (HL.out HS.out), rfl⟩
        · have h2 : ((p[i].toNat : Int) == 63) = false := by simpa using h2
          have h2' : ((p[i].toNat : Int) != 63) = true := by unfold bne; rw [h2]; rfl
          have HS := Lib.hid (show signB p[i] = false by rw [hsg, h1, h2]; rfl)
          clear hsg
          go_wp2_with fail
          go_round
          case rel => exact ⟨i + 1, by omega, by go_num, HX.out HS.out⟩
          case measure => simp [intOf]; omega
    · obtain rfl : i = p.size := by omega
      have hfin := Lib.hid (leadS_end HA.out)
      have hd : decide ((p.size : Int) < (p.size : Int)) = false := decide_eq_false (by omega)
      go_wp2_with fail
      go_ret
      exact ⟨ret_sub hfin.out, rfl⟩

theorem leastTo_succ {p : ByteArray} {i c : Nat} (h : (chrs p).1[i]? = some c) : leastTo p (i + 1) = leastTo p i + if c = 42 then 0 else 1 := by
  have := stars_step h
  unfold leastTo
  rw [this]
  congr 1
  by_cases hc : c = 42
  · subst hc; rfl
  · rw [one_many hc, if_neg hc]; rfl
set_option maxHeartbeats 1600000 in
theorem ref_Least (p : ByteArray) (w : World) (hp : p.size ≤ 16777216) : Calls Tryd.prog 24 #[.string p] w fun e w' => e = .returned (.int .i64 (leastN p : Nat)) ∧ Below w.heap.size w w' := by
  go_enter Tryd.func24, Tryd.ntmps24
  go_wp2_with fail
  refine (ref_Check p _ hp).mono ?_
  rintro e w1 ⟨hb1, rfl⟩
  have hk := chkP_ok p
  generalize hkk : chkP p = kk at *
  obtain ⟨k0, k1⟩ := kk
  simp only at hk ⊢
  go_wp2_with ((with_reducible refine wpList_bytes_sl rfl 9 27 5 _ rfl p rfl Tryd.underlying9 Tryd.underlying27 Tryd.underlying5 (by omega) ?_); intro v2 w2 hv2 hb2)
  have hb12 := Bt hb1 hb2
  refine (ref_Chars v2 p _ hp hv2).mono ?_
  rintro e w3 ⟨hb3, hcp⟩
  have hb13 := Bt hb12 hb3
  clear hb1 hb2 hb3 hb12 hkk
  by_cases hk0 : k0 = 0
  · subst hk0
    have hok := hk.1 rfl
    clear hk
    rcases hcp with ⟨hn, v6, rfl, hown⟩ | ⟨i, hi, a3, rfl⟩
    · obtain ⟨pa, pc, rfl, hpc1, hpc2, hpsl⟩ := chars_sl hown rfl
      have hpl := chrs_len p
      have hfin : leastTo p (chrs p).1.length = leastN p := by unfold leastN leastTo; rw [if_pos hok, List.take_length]
      have HFIN := Lib.hid hfin
      have HST := Lib.hid (fun i c h => @leastTo_succ p i c h)
      generalize (chrs p).1 = l at *
      unfold maxLen at hpc2
      clear hn hok hown hfin
      have e00 : ((0 : Int) == 0) = true := rfl
      go_wp2_with fail
      go_loopw [7, 8] (fun n x wr => ∃ i : Nat, i ≤ l.length ∧ x = .int .i64 i ∧ n = .int .i64 (leastTo p i : Nat) ∧ Below w3.heap.size w3 wr) (fun _ x _ => l.length - (intOf x).toNat)
      case atStart => exact ⟨0, Nat.zero_le _, rfl, by unfold leastTo; simp, Below.refl _ _⟩
      case round =>
        obtain ⟨i, hil, rfl, rfl, hbr⟩ := hrel
        have hle := leastTo_le p i
        by_cases hlt : i < l.length
        · obtain ⟨c, hc⟩ : ∃ c, l[i]? = some c := ⟨_, List.getElem?_eq_getElem hlt⟩
          obtain ⟨lb, rfl, hlb, hlc⟩ := (hpsl.below hbr) i c hc
          have hst := HST.out i c hc
          generalize leastTo p i = n at *
          have hd : decide ((i : Int) < (l.length : Int)) = true := decide_eq_true (by omega)
          by_cases h42 : c = 42
          · rw [if_pos h42] at hst
            have h1 : ((c : Int) != 42) = false := by subst h42; rfl
            have H2 := Lib.hid hst
            clear hst h42 hc
            go_wp2_with fail
            go_roundw
            case rel => exact ⟨i + 1, by omega, by go_num, by rw [H2.out]; rfl, hbr⟩
            case measure => simp [intOf]; omega
          · rw [if_neg h42] at hst
            have h1 : ((c : Int) != 42) = true := by rw [bne_iff_ne]; omega
            have H2 := Lib.hid hst
            clear hst h42 hc
            go_wp2_with fail
            go_roundw
            case rel => exact ⟨i + 1, by omega, by go_num, by rw [H2.out]; rfl, hbr⟩
            case measure => simp [intOf]; omega
        · obtain rfl : i = l.length := by omega
          have hb2 := Bt hb13 hbr
          have hd : decide ((l.length : Int) < (l.length : Int)) = false := decide_eq_false (by omega)
          go_wp2_with fail
          go_ret
          exact ⟨ret_i64 (by rw [HFIN.out]), hb2⟩
    · have := (okP_none hok).1
      rw [hi] at this; cases this
  · have hv := Lib.hid (show leastN p = 0 by unfold leastN; rw [if_neg (fun h => hk0 (hk.2 h))])
    have e3 : ((k0 : Int) == 0) = false := by rw [beq_eq_false_iff_ne]; omega
    clear hk
    obtain ⟨a4, n4, c4, r4, rfl⟩ : ∃ a n c r, e = .returned (.tuple #[.slice a n c, r]) := by
      rcases hcp with ⟨hn, v6, rfl, hown⟩ | ⟨i, hi, a3, rfl⟩
      · obtain ⟨a, c, rfl⟩ := row_len hown; exact ⟨_, _, _, _, rfl⟩
      · exact ⟨_, _, _, _, rfl⟩
    clear hcp
    go_wp2_with fail
    refine wp_loop_rounds 1 ?_
    rw [rounds_succ]
    by_cases h0 : (0 : Int) < (n4 : Int)
    · have hd : decide ((0 : Int) < (n4 : Int)) = true := decide_eq_true h0
      go_wp2_with fail
      go_ret
      exact ⟨ret_i64 (by rw [hv.out]; rfl), hb13⟩
    · have hd : decide ((0 : Int) < (n4 : Int)) = false := decide_eq_false h0
      go_wp2_with fail
      go_ret
      exact ⟨ret_i64 (by rw [hv.out]; rfl), hb13⟩

end Go.Proofs.YtlnnimmiifdnnaaDoor
