/- puny.threshold, digit, right, number. -/
import Derived.Test.YtkeankhacjgdhaaPunyAdapt
import Derived.Test.YtkeankhacjgdhaaBuilderG
import Derived.Test.YtkeankhacjgdhaaUtfPut
namespace Go.Proofs.Ytkeankhacjgdhaa
open Go.RowKit

theorem thr_int (k b : Nat) : min (max ((k : Int) - (b : Int)) 1) 26 = ((thrN k b : Nat) : Int) := by unfold thrN; omega
set_option maxHeartbeats 800000 in
theorem puny_threshold (k b : Nat) (w : World) (hk : k ≤ 1000000) (hb : b ≤ 1000000000000) :
    Calls Try.prog 29 #[.int .i64 (k : Int), .int .i64 (b : Int)] w fun e w' => e = .returned (.int .i64 ((thrN k b : Nat) : Int)) ∧ w = w' := by
  have HT := Lib.hid (thr_int k b)
  generalize thrN k b = t at *
  go_enter Try.func29, Try.ntmps29
  go_wp2_with fail
  go_ret
  exact ⟨by rw [← HT.out]; try simp, rfl⟩
theorem dig_int (n : Nat) (h : n < 36) : ((digN n).toNat : Int) = if (n : Int) < 26 then 97 + (n : Int) else 22 + (n : Int) := by
  unfold digN
  by_cases h1 : n < 26
  · rw [if_pos h1, if_pos (by omega), UInt8.toNat_ofNat_of_lt' (show 97 + n < 256 by omega)]; simp
  · rw [if_neg h1, if_neg (by omega), UInt8.toNat_ofNat_of_lt' (show 22 + n < 256 by omega)]; simp
set_option maxHeartbeats 800000 in
theorem puny_digit (n : Nat) (w : World) (h : n < 36) :
    Calls Try.prog 30 #[.int .i64 (n : Int)] w fun e w' => e = .returned (.int .u8 ((digN n).toNat : Int)) ∧ w = w' := by
  have hd := dig_int n h
  by_cases h1 : (n : Int) < 26
  · rw [if_pos h1] at hd
    have HD := Lib.hid (congrArg (fun x => Ending.returned (.int .u8 x)) hd)
    clear hd
    go_enter Try.func30, Try.ntmps30
    go_wp2_with fail
    go_ret
    exact ⟨HD.out.symm, rfl⟩
  · rw [if_neg h1] at hd
    have HD := Lib.hid (congrArg (fun x => Ending.returned (.int .u8 x)) hd)
    clear hd
    go_enter Try.func30, Try.ntmps30
    go_wp2_with fail
    go_ret
    refine ⟨?_, rfl⟩
    rw [HD.out]
    show Ending.returned (.int .u8 (48 + (n : Int) - 26)) = _
    rw [show 48 + (n : Int) - 26 = 22 + (n : Int) by omega]
set_option maxHeartbeats 800000 in
theorem puny_right (n : Int) (w : World) : Calls Try.prog 13 #[.int .i64 n] w fun e w' => e = .returned (.bool (rightB n)) ∧ Below w.heap.size w w' := by
  have cP := Lib.hid (utf_Put n w)
  go_enter Try.func13, Try.ntmps13
  go_wp2_with fail
  refine cP.out.mono ?_
  rintro e w2 ⟨hb2, h⟩
  rcases h with ⟨hr, v, rfl, _⟩ | ⟨hr, v, rfl, hv⟩
  · have HR := Lib.hid hr
    go_wp2_with fail
    go_ret
    exact ⟨ret_bool HR.out.symm, hb2⟩
  · have HR := Lib.hid hr
    obtain ⟨q, rfl⟩ := hv.ne_nil
    clear hv
    go_wp2_with fail
    go_ret
    exact ⟨ret_bool HR.out.symm, hb2⟩
theorem sub_div_int {m t : Nat} (h : t ≤ m) (ht : t ≤ 26) : (((m - t) / (36 - t) : Nat) : Int) = ((m : Int) - (t : Int)) / (36 - (t : Int)) ∧ (((m - t) % (36 - t) : Nat) : Int) = ((m : Int) - (t : Int)) % (36 - (t : Int)) := by
  have h1 : ((m - t : Nat) : Int) = (m : Int) - t := by omega
  have h2 : ((36 - t : Nat) : Int) = 36 - (t : Int) := by omega
  constructor
  · rw [Int.natCast_ediv, h1, h2]
  · rw [Int.natCast_emod, h1, h2]
set_option maxHeartbeats 3200000 in
set_option maxRecDepth 100000 in
theorem puny_number (B b G : Nat) (l : List UInt8) (n bias : Nat) (w : World) (h : BldG w B b G l) (hlen : l.length ≤ 1000000) (hBw : B ≤ w.heap.size) (hn : n < 1000000000) (hb : bias ≤ 1000000000000) :
    Calls Try.prog 19 #[.pointer (some ⟨b, 0, none⟩), .int .i64 (n : Int), .int .i64 (bias : Int)] w fun e w' => e = .returned (.tuple #[]) ∧ BldG w' B b G (l ++ numD n bias) ∧ ButG B b G w w' := by
  have hlen2 := numD_len (b := bias) hn
  have HD := Lib.hid (show numD n bias = numL n n 36 bias from rfl)
  generalize numD n bias = D at *
  go_enter Try.func19, Try.ntmps19
  go_wp2_with fail
  go_loopw [1, 6] (fun x y wr => ∃ (f m k : Nat) (acc : List UInt8), x = .int .i64 m ∧ y = .int .i64 k ∧ m ≤ f ∧ m ≤ n ∧ k = 36 * (acc.length + 1) ∧ acc ++ numL f m k bias = D ∧ BldG wr B b G (l ++ acc) ∧ ButG B b G w wr) (fun x _ _ => (intOf x).toNat)
  case atStart => exact ⟨n, n, 36, [], rfl, rfl, Nat.le_refl _, Nat.le_refl _, rfl, HD.out.symm, by rw [List.append_nil]; exact h, ButG.refl _ _ _ _⟩
  case round =>
    obtain ⟨f, m, k, acc, rfl, rfl, hmf, hmn, hk, hacc, hbl, hbu⟩ := hrel
    have hal : acc.length ≤ 10 := by
      have := congrArg List.length hacc
      rw [List.length_append] at this
      omega
    have hk2 : k ≤ 1000000 := by omega
    have cT := Lib.hid (puny_threshold k bias wr hk2 hb)
    have ht := thrN_range k bias
    have hsz := Nat.le_trans hBw hbu.1.size
    have HBU := Lib.hid hbu
    have HBL := Lib.hid hbl
    have HK := Lib.hid hk
    clear hk
    by_cases hlt : m < thrN k bias
    · rw [numL_last hlt] at hacc
      have HA := Lib.hid hacc
      generalize thrN k bias = t at *
      have hltI : (m : Int) < (t : Int) := by omega
      have cG := Lib.hid (puny_digit m wr (by omega))
      have cW := Lib.hid (bldG_WriteByte B b G (l ++ acc) (digN m) wr hbl (by rw [List.length_append]; omega) hsz)
      generalize digN m = dg at *
      clear hacc hbu hbl hlt h
      go_wp2_with fail
      refine cT.out.mono ?_
      rintro e w2 ⟨rfl, rfl⟩
      go_wp2_with fail
      refine cG.out.mono ?_
      rintro e w2 ⟨rfl, rfl⟩
      go_wp2_with fail
      refine cW.out.mono ?_
      rintro e w2 ⟨rfl, hb2, hbu2⟩
      go_wp2_with fail
      first | go_end0 | (simp only [Exit.inBlock, Exit.then]; refine bodyPost_ret (results_none rfl _ _ _) rfl ?_) | refine bodyPost_ret (results_none rfl _ _ _) rfl ?_
      exact ⟨rfl, by rw [← HA.out, ← List.append_assoc]; exact hb2, HBU.out.trans hbu2⟩
    · obtain ⟨f', rfl⟩ : ∃ f', f = f' + 1 := ⟨f - 1, by omega⟩
      have hless := num_less hlt
      rw [numL_more hlt] at hacc
      obtain ⟨e1, e2⟩ := sub_div_int (m := m) (t := thrN k bias) (by omega) ht.2
      have hmod : (m - thrN k bias) % (36 - thrN k bias) < 36 - thrN k bias := Nat.mod_lt _ (by omega)
      generalize thrN k bias = t at *
      have hdg : t + (m - t) % (36 - t) < 36 := by omega
      have hltI : ¬ (m : Int) < (t : Int) := by omega
      have cG := Lib.hid (puny_digit (t + (m - t) % (36 - t)) wr hdg)
      have cW := Lib.hid (bldG_WriteByte B b G (l ++ acc) (digN (t + (m - t) % (36 - t))) wr hbl (by rw [List.length_append]; omega) hsz)
      have hdc : wrap64 ((t : Int) + ((m : Int) - (t : Int)) % (36 - (t : Int))) = ((t + (m - t) % (36 - t) : Nat) : Int) := by
        rw [← e2, wrap64_inA _ (by omega) (by omega)]; simp
      generalize t + (m - t) % (36 - t) = dd at *
      generalize digN dd = dg at *
      generalize (m - t) / (36 - t) = q at *
      generalize (m - t) % (36 - t) = rr at *
      have HA := Lib.hid hacc
      have HE1 := Lib.hid e1
      have HDC := Lib.hid hdc
      clear hacc hbu hbl hlt h e1 e2 hdc
      go_wp2_with fail
      refine cT.out.mono ?_
      rintro e w2 ⟨rfl, rfl⟩
      go_wp2_with fail
      rw [HDC.out]
      refine cG.out.mono ?_
      rintro e w2 ⟨rfl, rfl⟩
      go_wp2_with fail
      refine cW.out.mono ?_
      rintro e w2 ⟨rfl, hb2, hbu2⟩
      go_wp2_with fail
      rw [← HE1.out]
      go_roundw
      case rel => exact ⟨f', q, k + 36, acc ++ [dg], rfl, by simp, by omega, by omega, by have := HK.out; simp; omega, by rw [List.append_assoc]; exact HA.out, by rw [← List.append_assoc]; exact hb2, HBU.out.trans hbu2⟩
      case measure => simp [intOf]; omega
end Go.Proofs.Ytkeankhacjgdhaa
