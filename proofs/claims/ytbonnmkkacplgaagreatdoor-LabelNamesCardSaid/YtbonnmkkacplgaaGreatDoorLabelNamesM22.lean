/- The reference's Char of chapter 10. -/
import Derived.Test.YtbonnmkkacplgaaGreatDoorLabelNamesM2
import Derived.Test.YtbonnmkkacplgaaGreatDoorLabelNamesM8
import Derived.Test.YtbonnmkkacplgaaGreatDoorLabelNamesM14

namespace Go.Proofs.YtbonnmkkacplgaaGreatDoor
open Go.RowKit

set_option maxHeartbeats 6400000 in
set_option maxRecDepth 100000 in
theorem ref10_Char (c : Int) (w : World) (h1 : -9223372036854775808 ≤ c) (h2 : c ≤ 9223372036854775807) :
    Calls Tryz.prog 17 #[.int .i64 c] w fun e w' => e = .returned (.bool (charZ c)) ∧ w = w' := by
  by_cases d0 : ¬ c ≥ 223
  · have f0 : ¬ c ≥ 12293 := by omega
    have f1 : ¬ c ≥ 63744 := by omega
    have f2 : ¬ c ≥ 65536 := by omega
    have HV := Lib.hid (show charZ c = false from decide_eq_false (by unfold inSpan; omega))
    go_enter Tryz.func17, Tryz.ntmps17
    go_wp2_with fail
    go_ret
    exact ⟨ret_bool HV.out.symm, rfl⟩
  by_cases d1 : c ≤ 12287
  · by_cases e0 : c = 247
    · have f0 : (c != 247) = false := by rw [bne_eq_false_iff_eq]; omega
      have HV := Lib.hid (show charZ c = false from decide_eq_false (by unfold inSpan; omega))
      clear e0
      go_enter Tryz.func17, Tryz.ntmps17
      go_wp2_with fail
      go_ret
      exact ⟨ret_bool HV.out.symm, rfl⟩
    by_cases e1 : c < 8192
    · have f0 : (c != 247) = true := by rw [bne_iff_ne]; omega
      have HV := Lib.hid (show charZ c = true from decide_eq_true (by unfold inSpan; omega))
      go_enter Tryz.func17, Tryz.ntmps17
      go_wp2_with fail
      go_ret
      exact ⟨ret_bool HV.out.symm, rfl⟩
    by_cases e2 : c > 11263
    · have f0 : (c != 247) = true := by rw [bne_iff_ne]; omega
      have HV := Lib.hid (show charZ c = true from decide_eq_true (by unfold inSpan; omega))
      go_enter Tryz.func17, Tryz.ntmps17
      go_wp2_with fail
      go_ret
      exact ⟨ret_bool HV.out.symm, rfl⟩
    have f0 : (c != 247) = true := by rw [bne_iff_ne]; omega
    have HV := Lib.hid (show charZ c = false from decide_eq_false (by unfold inSpan; omega))
    go_enter Tryz.func17, Tryz.ntmps17
    go_wp2_with fail
    go_ret
    exact ⟨ret_bool HV.out.symm, rfl⟩
  by_cases d2 : ¬ c ≥ 12293
  · have f0 : ¬ c ≥ 63744 := by omega
    have f1 : ¬ c ≥ 65536 := by omega
    have HV := Lib.hid (show charZ c = false from decide_eq_false (by unfold inSpan; omega))
    go_enter Tryz.func17, Tryz.ntmps17
    go_wp2_with fail
    go_ret
    exact ⟨ret_bool HV.out.symm, rfl⟩
  by_cases d3 : c ≤ 55295
  · have HV := Lib.hid (show charZ c = true from decide_eq_true (by unfold inSpan; omega))
    go_enter Tryz.func17, Tryz.ntmps17
    go_wp2_with fail
    go_ret
    exact ⟨ret_bool HV.out.symm, rfl⟩
  by_cases d4 : ¬ c ≥ 63744
  · have f0 : ¬ c ≥ 65536 := by omega
    have HV := Lib.hid (show charZ c = false from decide_eq_false (by unfold inSpan; omega))
    go_enter Tryz.func17, Tryz.ntmps17
    go_wp2_with fail
    go_ret
    exact ⟨ret_bool HV.out.symm, rfl⟩
  by_cases d5 : c ≤ 65023
  · by_cases e0 : c < 64976
    · have HV := Lib.hid (show charZ c = true from decide_eq_true (by unfold inSpan; omega))
      go_enter Tryz.func17, Tryz.ntmps17
      go_wp2_with fail
      go_ret
      exact ⟨ret_bool HV.out.symm, rfl⟩
    by_cases e1 : c > 65007
    · have HV := Lib.hid (show charZ c = true from decide_eq_true (by unfold inSpan; omega))
      go_enter Tryz.func17, Tryz.ntmps17
      go_wp2_with fail
      go_ret
      exact ⟨ret_bool HV.out.symm, rfl⟩
    have HV := Lib.hid (show charZ c = false from decide_eq_false (by unfold inSpan; omega))
    go_enter Tryz.func17, Tryz.ntmps17
    go_wp2_with fail
    go_ret
    exact ⟨ret_bool HV.out.symm, rfl⟩
  by_cases d6 : ¬ c ≥ 65536
  · have HV := Lib.hid (show charZ c = false from decide_eq_false (by unfold inSpan; omega))
    go_enter Tryz.func17, Tryz.ntmps17
    go_wp2_with fail
    go_ret
    exact ⟨ret_bool HV.out.symm, rfl⟩
  by_cases d7 : ¬ c ≤ 262143
  · have HV := Lib.hid (show charZ c = false from decide_eq_false (by unfold inSpan; omega))
    go_enter Tryz.func17, Tryz.ntmps17
    go_wp2_with fail
    go_ret
    exact ⟨ret_bool HV.out.symm, rfl⟩
  by_cases e0 : c % 65536 = 65534
  · have f0 : (c % 65536 != 65534) = false := by rw [bne_eq_false_iff_eq]; omega
    have HV := Lib.hid (show charZ c = false from decide_eq_false (by unfold inSpan; omega))
    clear e0
    go_enter Tryz.func17, Tryz.ntmps17
    go_wp2_with fail
    go_ret
    exact ⟨ret_bool HV.out.symm, rfl⟩
  by_cases e1 : c % 65536 = 65535
  · have f0 : (c % 65536 != 65534) = true := by rw [bne_iff_ne]; omega
    have f1 : (c % 65536 != 65535) = false := by rw [bne_eq_false_iff_eq]; omega
    have HV := Lib.hid (show charZ c = false from decide_eq_false (by unfold inSpan; omega))
    clear e1
    go_enter Tryz.func17, Tryz.ntmps17
    go_wp2_with fail
    go_ret
    exact ⟨ret_bool HV.out.symm, rfl⟩
  have f0 : (c % 65536 != 65534) = true := by rw [bne_iff_ne]; omega
  have f1 : (c % 65536 != 65535) = true := by rw [bne_iff_ne]; omega
  have HV := Lib.hid (show charZ c = true from decide_eq_true (by unfold inSpan; omega))
  go_enter Tryz.func17, Tryz.ntmps17
  go_wp2_with fail
  go_ret
  exact ⟨ret_bool HV.out.symm, rfl⟩
end Go.Proofs.YtbonnmkkacplgaaGreatDoor

/- The reference's value, threshold, number of chapter 09. -/
namespace Go.Proofs.YtbonnmkkacplgaaGreatDoor
open Go.RowKit

def digs09 : ByteArray := ⟨#[97, 98, 99, 100, 101, 102, 103, 104, 105, 106, 107, 108, 109, 110, 111, 112, 113, 114, 115, 116, 117, 118, 119, 120, 121, 122, 48, 49, 50, 51, 52, 53, 54, 55, 56, 57]⟩
def valM (n : Nat) : Nat := if 65 ≤ n ∧ n ≤ 90 then n - 65 else if 97 ≤ n ∧ n ≤ 122 then n - 97 else if 48 ≤ n ∧ n ≤ 57 then n - 48 + 26 else 99
theorem valM_of (c : UInt8) : valN c = if valM c.toNat < 36 then some (valM c.toNat) else none := by
  unfold valN valM
  split
  · rw [if_pos (by omega)]
  · split
    · rw [if_pos (by omega)]
    · split
      · rw [if_pos (by omega)]
      · rw [if_neg (by omega)]
theorem digs09_find (n : Nat) (hn : n < 256) (hg : ¬ (65 ≤ n ∧ n ≤ 90)) : (∀ k, k < 36 → ((digs09.data.toList.getD k 0).toNat = n ↔ valM n = k)) ∧ (valM n < 36 ∨ valM n = 99) := by
  have : ∀ n : Fin 256, ¬ (65 ≤ n.1 ∧ n.1 ≤ 90) → (∀ k : Fin 36, ((digs09.data.toList.getD k.1 0).toNat = n.1 ↔ valM n.1 = k.1)) ∧ (valM n.1 < 36 ∨ valM n.1 = 99) := by decide +kernel
  have h := this ⟨n, hn⟩ hg
  exact ⟨fun k hk => h.1 ⟨k, hk⟩, h.2⟩
def valZ (n : Nat) : Int := if valM n < 36 then (valM n : Int) else -1

set_option maxHeartbeats 1600000 in
set_option maxRecDepth 100000 in
theorem ref09_value (n : Nat) (hn : n < 256) (w : World) : Calls Tryz.prog 132 #[.int .u8 (n : Int)] w fun e w' => e = .returned (.int .i64 (valZ n)) ∧ ∃ q, w.drewN q = w' := by
  by_cases hg : 65 ≤ n ∧ n ≤ 90
  · obtain ⟨g1, g2⟩ := hg
    have g1I : (n : Int) ≥ 65 := by omega
    have g2I : (n : Int) ≤ 90 := by omega
    have hv : valZ n = (n : Int) - 65 := by
      have hm : valM n = n - 65 := by unfold valM; rw [if_pos ⟨g1, g2⟩]
      unfold valZ
      rw [hm, if_pos (by omega)]
      omega
    have HV := Lib.hid hv
    clear hv
    go_enter Tryz.func132, Tryz.ntmps132
    go_wp2_with fail
    go_ret
    exact ⟨ret_i64 (by rw [HV.out]), 0, rfl⟩
  obtain ⟨hf, hv⟩ := digs09_find n hn hg
  have HF := Lib.hid hf
  have HG := Lib.hid hg
  clear hf hg
  by_cases g1 : (n : Int) ≥ 65
  all_goals
    try have g2 : ¬ (n : Int) ≤ 90 := by have := HG.out; omega
    go_enter Tryz.func132, Tryz.ntmps132
    go_wp2_with fail
    go_loopw [3] (fun i wr => ∃ k q : Nat, k ≤ 36 ∧ i = .int .i64 k ∧ (∀ j, j < k → valM n ≠ j) ∧ w.drewN q = wr) (fun i _ => 36 - (intOf i).toNat)
    case atStart => exact ⟨0, 0, by omega, rfl, fun j hj => by omega, rfl⟩
    case round =>
      obtain ⟨k, q, hk, rfl, hall, hwr⟩ := hrel
      have HW := Lib.hid hwr
      have HA := Lib.hid hall
      clear hall hwr
      by_cases hlt : k < 36
      · have hcond := HF.out k hlt
        have i1 : (k : Int) < 36 := by omega
        have hbk : (digs09.data.toList.getD k 0) = (⟨#[97, 98, 99, 100, 101, 102, 103, 104, 105, 106, 107, 108, 109, 110, 111, 112, 113, 114, 115, 116, 117, 118, 119, 120, 121, 122, 48, 49, 50, 51, 52, 53, 54, 55, 56, 57]⟩ : ByteArray)[k]'hlt := by
          simp [digs09, List.getD, hlt]; rfl
        rw [hbk] at hcond
        clear hbk
        by_cases hc : valM n = k
        · have e1 := hcond.2 hc
          have e2 : ((((⟨#[97, 98, 99, 100, 101, 102, 103, 104, 105, 106, 107, 108, 109, 110, 111, 112, 113, 114, 115, 116, 117, 118, 119, 120, 121, 122, 48, 49, 50, 51, 52, 53, 54, 55, 56, 57]⟩ : ByteArray)[k]'hlt).toNat : Int) == (n : Int)) = true := by
            rw [beq_iff_eq]; exact_mod_cast e1
          have HC := Lib.hid hc
          clear hc hcond e1
          go_wp2_with fail
          go_ret
          exact ⟨ret_i64 (by unfold valZ; rw [HC.out, if_pos hlt]), _, HW.out⟩
        · have e2 : ((((⟨#[97, 98, 99, 100, 101, 102, 103, 104, 105, 106, 107, 108, 109, 110, 111, 112, 113, 114, 115, 116, 117, 118, 119, 120, 121, 122, 48, 49, 50, 51, 52, 53, 54, 55, 56, 57]⟩ : ByteArray)[k]'hlt).toNat : Int) == (n : Int)) = false := by
            rw [beq_eq_false_iff_ne]
            intro h
            exact hc (hcond.1 (by exact_mod_cast h))
          have HC := Lib.hid hc
          clear hc hcond
          go_wp2_with fail
          go_roundw
          case rel => exact ⟨k + 1, _, by omega, by go_num, fun j hj => by
            by_cases hjk : j = k
            · subst hjk; exact HC.out
            · exact HA.out j (by omega), HW.out⟩
          case measure => simp [intOf]; omega
      · obtain rfl : k = 36 := by omega
        have h99 : valM n = 99 := by
          rcases hv with h | h
          · exact absurd rfl (HA.out _ h)
          · exact h
        have H99 := Lib.hid h99
        clear h99 hv
        go_wp2_with fail
        go_ret
        exact ⟨ret_i64 (by unfold valZ; rw [H99.out]; rfl), _, HW.out⟩
set_option maxHeartbeats 800000 in
theorem ref09_threshold (k b : Nat) (w : World) (hk : k ≤ 1000000) (hb : b ≤ 1000000000000) :
    Calls Tryz.prog 96 #[.int .i64 (k : Int), .int .i64 (b : Int)] w fun e w' => e = .returned (.int .i64 ((thrN k b : Nat) : Int)) ∧ w = w' := by
  by_cases h1 : (k : Int) - (b : Int) < 1
  · have HT := Lib.hid (show thrN k b = 1 by unfold thrN; omega)
    go_enter Tryz.func96, Tryz.ntmps96
    go_wp2_with fail
    go_ret
    exact ⟨ret_i64 (by rw [HT.out]; rfl), rfl⟩
  by_cases h2 : (k : Int) - (b : Int) > 26
  · have HT := Lib.hid (show thrN k b = 26 by unfold thrN; omega)
    go_enter Tryz.func96, Tryz.ntmps96
    go_wp2_with fail
    go_ret
    exact ⟨ret_i64 (by rw [HT.out]; rfl), rfl⟩
  have HT := Lib.hid (show ((thrN k b : Nat) : Int) = (k : Int) - (b : Int) by unfold thrN; omega)
  go_enter Tryz.func96, Tryz.ntmps96
  go_wp2_with fail
  go_ret
  exact ⟨ret_i64 HT.out.symm, rfl⟩
end Go.Proofs.YtbonnmkkacplgaaGreatDoor

/- The reference's number of chapter 09. -/
namespace Go.Proofs.YtbonnmkkacplgaaGreatDoor
open Go.RowKit

def RNPost (s : ByteArray) (a b : Nat) (w : World) (e : Ending) (w' : World) : Prop := (∃ q, w.drewN q = w') ∧
  ((∃ k j : Nat, rdN s a b = .error (k, j) ∧ k ≠ 0 ∧ e = .returned (.tuple #[.int .i64 0, .int .i64 0, .int .i64 (k : Int), .int .i64 (j : Int)])) ∨
   ∃ i t : Nat, rdN s a b = .ok (i, t) ∧ e = .returned (.tuple #[.int .i64 (i : Int), .int .i64 (t : Int), .int .i64 0, .int .i64 0]))
theorem results_tmp4 {fn : Func} {t u v x : Tmp} (h : fn.results = #[.tmp t, .tmp u, .tmp v, .tmp x]) (tmps : Array Value) (P : Program) (w : World) :
    (results fn tmps).run P w = .ok (.tuple #[tmps.getD t undef, tmps.getD u undef, tmps.getD v undef, tmps.getD x undef]) w := by
  simp [results, h]
theorem valZ_none {c : UInt8} (h : valN c = none) : valZ c.toNat = -1 := by
  rw [valM_of] at h
  unfold valZ
  split at h
  · cases h
  · rw [if_neg (by assumption)]
theorem valZ_some {c : UInt8} {d : Nat} (h : valN c = some d) : valZ c.toNat = (d : Int) := by
  rw [valM_of] at h
  unfold valZ
  split at h
  · injection h with h; rw [if_pos (by assumption), h]
  · cases h
set_option maxHeartbeats 6400000 in
set_option maxRecDepth 100000 in
theorem ref09_number (a0 b : Nat) (s : ByteArray) (w : World) (hs : s.size ≤ 1024) (ha : a0 ≤ s.size) (hb : b ≤ 1000000000000) :
    Calls Tryz.prog 106 #[.string s, .int .i64 (a0 : Int), .int .i64 (b : Int)] w (RNPost s a0 b w) := by
  have HR := Lib.hid (show rdN s a0 b = rdF s b (s.size - a0) a0 0 1 36 from rfl)
  generalize hRR : rdN s a0 b = R at *
  have HRR := Lib.hid hRR
  clear hRR
  go_enter Tryz.func106, Tryz.ntmps106
  go_wp2_with fail
  go_loopw [1, 10, 11, 12] (fun u x y z wr => ∃ a n v k q : Nat, u = .int .i64 a ∧ x = .int .i64 n ∧ y = .int .i64 v ∧ z = .int .i64 k ∧ a ≤ s.size ∧ k = 36 + 36 * (a - a0) ∧ a0 ≤ a ∧ n ≤ 2147483647 ∧ 1 ≤ v ∧ v ≤ 2147483647 ∧ rdF s b (s.size - a) a n v k = R ∧ w.drewN q = wr) (fun _ _ _ z _ => 40000 - (intOf z).toNat)
  case atStart => exact ⟨a0, 0, 1, 36, 0, rfl, rfl, rfl, rfl, ha, by omega, Nat.le_refl _, by omega, by omega, by omega, HR.out.symm, rfl⟩
  case round =>
    obtain ⟨a, n, v, k, q, rfl, rfl, rfl, rfl, hal, hk, haa, hn, hv1, hv2, hgo, hwr⟩ := hrel
    have hk2 : k ≤ 36900 := by omega
    have HK := Lib.hid hk
    have HW := Lib.hid hwr
    clear hk hwr
    by_cases hlt : a < s.size
    · obtain ⟨f', hf'⟩ : ∃ f', s.size - a = f' + 1 := ⟨s.size - a - 1, by omega⟩
      have hf2 : s.size - (a + 1) = f' := by omega
      rw [hf'] at hgo
      have HF2 := Lib.hid hf2
      have hidx : s[a] = byteAt s a := by simp [byteAt, List.getD, hlt]; rfl
      have eqI : ((a : Int) == (s.size : Int)) = false := by rw [beq_eq_false_iff_ne]; omega
      have hltI : (a : Int) < (s.size : Int) := by omega
      have cV := Lib.hid (fun W => ref09_value s[a].toNat (UInt8.toNat_lt _) W)
      clear hf' hf2
      cases hval : valN (byteAt s a) with
      | none =>
        rw [rd_form hlt hval] at hgo
        have HG := Lib.hid hgo
        have cV2 : ∀ W, Calls Tryz.prog 132 #[.int .u8 (s[a].toNat : Int)] W fun e w' => e = .returned (.int .i64 (-1)) ∧ ∃ q, W.drewN q = w' := fun W => by have := cV.out W; rw [hidx, valZ_none hval] at this; rw [hidx]; exact this
        have CV2 := Lib.hid cV2
        clear hgo hval cV2 cV hidx
        go_wp2_with fail
        refine (CV2.out _).mono ?_
        rintro e w2 ⟨rfl, q2, rfl⟩
        go_wp2_with fail
        ((try simp only [Exit.inBlock, Exit.then]); refine bodyPost_ret (results_tmp4 rfl _ _ _) rfl ?_)
        refine ⟨⟨_, by first | exact HW.out | rw [← HW.out, World.drewN_drewN]⟩, .inl ⟨11, a, by rw [HRR.out, ← HG.out], by decide, rfl⟩⟩
      | some d =>
        have hd := valN_lt hval
        have hst1 := rd_far (b := b) (f := f') (n := n) (w := v) (k := k) hlt hval
        have hst2 := rd_ok (b := b) (f := f') (n := n) (w := v) (k := k) hlt hval
        have hst3 := rd_wide (b := b) (f := f') (n := n) (w := v) (k := k) hlt hval
        have hst4 := rd_next (b := b) (f := f') (n := n) (w := v) (k := k) hlt hval
        have cV2 : ∀ W, Calls Tryz.prog 132 #[.int .u8 (s[a].toNat : Int)] W fun e w' => e = .returned (.int .i64 (d : Int)) ∧ ∃ q, W.drewN q = w' := fun W => by have := cV.out W; rw [hidx, valZ_some hval] at this; rw [hidx]; exact this
        have CV2 := Lib.hid cV2
        have hmx := mul_le_max hd hv2
        have ht := thrN_range k b
        have cT := Lib.hid (fun W => ref09_threshold k b W (by omega) hb)
        have hnv : ((n + d * v : Nat) : Int) = (n : Int) + (d : Int) * (v : Int) := by simp
        have hdv : ((d * v : Nat) : Int) = (d : Int) * (v : Int) := by simp
        have hp0 : 0 ≤ (d : Int) * (v : Int) := by rw [← hdv]; exact Int.natCast_nonneg _
        have hp1 : (d : Int) * (v : Int) ≤ 77309411292 := by rw [← hdv]; omega
        have hvt : ((v * (36 - thrN k b) : Nat) : Int) = (v : Int) * (36 - ((thrN k b : Nat) : Int)) := by
          rw [Int.natCast_mul]; congr 1; omega
        have hw0 : 0 ≤ (v : Int) * (36 - ((thrN k b : Nat) : Int)) := by rw [← hvt]; exact Int.natCast_nonneg _
        have hwm : v * (36 - thrN k b) ≤ 2147483647 * 36 := Nat.mul_le_mul hv2 (by omega)
        have hw1 : (v : Int) * (36 - ((thrN k b : Nat) : Int)) ≤ 77309411292 := by rw [← hvt]; omega
        clear hval cV2 cV hidx hwm
        by_cases h3 : 2147483647 < n + d * v
        · rw [hst1 h3] at hgo
          have hqI : (n : Int) + (d : Int) * (v : Int) > 2147483647 := by rw [← hnv]; omega
          have HG := Lib.hid hgo
          clear hgo hst1 hst2 hst3 hst4 h3 hmx hnv hdv hvt hw0 hw1
          go_wp2_with fail
          refine (CV2.out _).mono ?_
          rintro e w2 ⟨rfl, q2, rfl⟩
          go_wp2_with fail
          ((try simp only [Exit.inBlock, Exit.then]); refine bodyPost_ret (results_tmp4 rfl _ _ _) rfl ?_)
          refine ⟨⟨_, by first | exact HW.out | rw [← HW.out, World.drewN_drewN]⟩, .inl ⟨16, a, by rw [HRR.out, ← HG.out], by decide, rfl⟩⟩
        have hqI : ¬ (n : Int) + (d : Int) * (v : Int) > 2147483647 := by rw [← hnv]; omega
        have hnn : n + d * v ≤ 2147483647 := by omega
        by_cases h4 : d < thrN k b
        · rw [hst2 h3 h4] at hgo
          have HG := Lib.hid hgo
          have h4I : (d : Int) < ((thrN k b : Nat) : Int) := by omega
          have HNV := Lib.hid hnv
          clear hgo hst1 hst2 hst3 hst4 hmx hnv hdv h3 hnn h4 hvt hw0 hw1
          generalize thrN k b = t at *
          go_wp2_with fail
          refine (CV2.out _).mono ?_
          rintro e w2 ⟨rfl, q2, rfl⟩
          go_wp2_with fail
          refine (cT.out _).mono ?_
          rintro e w5 ⟨rfl, rfl⟩
          go_wp2_with fail
          ((try simp only [Exit.inBlock, Exit.then]); refine bodyPost_ret (results_tmp4 rfl _ _ _) rfl ?_)
          refine ⟨⟨_, by first | exact HW.out | rw [← HW.out, World.drewN_drewN]⟩, .inr ⟨n + d * v, a + 1, by rw [HRR.out, ← HG.out], by rw [HNV.out]; rfl⟩⟩
        have h4I : ¬ (d : Int) < ((thrN k b : Nat) : Int) := by omega
        by_cases h5 : 2147483647 < v * (36 - thrN k b)
        · rw [hst3 h3 h4 h5] at hgo
          have HG := Lib.hid hgo
          have h5I : (v : Int) * (36 - ((thrN k b : Nat) : Int)) > 2147483647 := by rw [← hvt]; omega
          clear hgo hst1 hst2 hst3 hst4 hmx hnv hdv h3 hnn h4 h5 hvt
          generalize thrN k b = t at *
          go_wp2_with fail
          refine (CV2.out _).mono ?_
          rintro e w2 ⟨rfl, q2, rfl⟩
          go_wp2_with fail
          refine (cT.out _).mono ?_
          rintro e w5 ⟨rfl, rfl⟩
          go_wp2_with fail
          ((try simp only [Exit.inBlock, Exit.then]); refine bodyPost_ret (results_tmp4 rfl _ _ _) rfl ?_)
          refine ⟨⟨_, by first | exact HW.out | rw [← HW.out, World.drewN_drewN]⟩, .inl ⟨16, a, by rw [HRR.out, ← HG.out], by decide, rfl⟩⟩
        · rw [hst4 h3 h4 h5] at hgo
          have HG := Lib.hid hgo
          have h5I : ¬ (v : Int) * (36 - ((thrN k b : Nat) : Int)) > 2147483647 := by rw [← hvt]; omega
          have hv1' : 1 ≤ v * (36 - thrN k b) := Nat.mul_pos (by omega) (by omega)
          have HNV := Lib.hid hnv
          have HVT := Lib.hid hvt
          have HN := Lib.hid hnn
          have H5 := Lib.hid (Nat.not_lt.1 h5)
          have HV1 := Lib.hid hv1'
          clear hgo hst1 hst2 hst3 hst4 hmx hnv hdv h3 hnn h4 h5 hvt hv1'
          generalize thrN k b = t at *
          go_wp2_with fail
          refine (CV2.out _).mono ?_
          rintro e w2 ⟨rfl, q2, rfl⟩
          go_wp2_with fail
          refine (cT.out _).mono ?_
          rintro e w5 ⟨rfl, rfl⟩
          go_wp2_with fail
          go_roundw
          case rel => exact ⟨a + 1, n + d * v, v * (36 - t), k + 36, _, by simp, by rw [HNV.out], by rw [HVT.out], by simp, by omega, by have := HK.out; omega, by omega, HN.out, HV1.out, H5.out, by rw [HF2.out]; exact HG.out, by first | exact HW.out | rw [← HW.out, World.drewN_drewN]⟩
          case measure => simp [intOf]; omega
    · obtain rfl : a = s.size := by omega
      rw [rd_end (Nat.le_refl _)] at hgo
      have HG := Lib.hid hgo
      have eqI : ((s.size : Int) == (s.size : Int)) = true := by simp
      clear hgo
      go_wp2_with fail
      ((try simp only [Exit.inBlock, Exit.then]); refine bodyPost_ret (results_tmp4 rfl _ _ _) rfl ?_)
      refine ⟨⟨_, HW.out⟩, .inl ⟨10, s.size, by rw [HRR.out, ← HG.out], by decide, rfl⟩⟩
end Go.Proofs.YtbonnmkkacplgaaGreatDoor

/- The walk of PunyAdapts. -/
namespace Go.Proofs.YtbonnmkkacplgaaGreatDoor
open Go.RowKit

set_option maxHeartbeats 1600000 in
set_option maxRecDepth 100000 in
theorem ref_Adapt (delta count : Int) (first : Bool) (w : World) (h1 : delta ≤ 1099511627776) (h2 : count ≤ 1099511627776) :
    Calls Tryz.prog 73 #[.int .i64 delta, .int .i64 count, .bool first] w fun e w' => e = .returned (.int .i64 (adaptZ delta count first)) ∧ w = w' := by
  by_cases hd : delta < 0
  · have HV := Lib.hid (adaptZ_neg (first := first) (count := count) (.inl hd))
    go_enter Tryz.func73, Tryz.ntmps73
    go_wp2_with fail
    go_ret
    exact ⟨ret_i64 HV.out.symm, rfl⟩
  by_cases hc : count < 1
  · have HV := Lib.hid (adaptZ_neg (first := first) (delta := delta) (.inr hc))
    go_enter Tryz.func73, Tryz.ntmps73
    go_wp2_with fail
    go_ret
    exact ⟨ret_i64 HV.out.symm, rfl⟩
  obtain ⟨d, rfl⟩ : ∃ d : Nat, delta = d := ⟨delta.toNat, by omega⟩
  obtain ⟨c, rfl⟩ : ∃ c : Nat, count = c := ⟨count.toNat, by omega⟩
  have hc1 : 1 ≤ c := by omega
  rw [adaptZ_nat d c first hc1]
  have hz := adapt0_le d c first
  have hst := adapt0_int d c first (by omega)
  have hR : adaptL (adapt0 d c first) (adapt0 d c first) 0 = adaptN d c first := rfl
  have HR := Lib.hid hR
  clear hR hd hc
  generalize adaptN d c first = R at *
  generalize adapt0 d c first = D at *
  cases first
  all_goals
    simp only [Bool.false_eq_true, if_false, if_true, reduceIte] at hst
    have hs := congrArg (Value.int .i64) hst
    have HST := Lib.hid hs
    clear hst hs
    go_enter Tryz.func73, Tryz.ntmps73
    go_wp2_with fail
    go_loop [7, 8] (fun x y => ∃ f e k : Nat, x = .int .i64 e ∧ y = .int .i64 k ∧ e ≤ f ∧ k + e ≤ D ∧ adaptL f e k = R) (fun x _ => (intOf x).toNat)
    case atStart => exact ⟨D, D, 0, HST.out, rfl, Nat.le_refl _, by omega, HR.out⟩
    case round =>
      obtain ⟨f, e, k, rfl, rfl, hef, hke, hg⟩ := hrel
      by_cases h5 : 455 < e
      · obtain ⟨f', rfl⟩ : ∃ f', f = f' + 1 := ⟨f - 1, by omega⟩
        rw [adaptL_go h5] at hg
        have HG := Lib.hid hg
        have h5I : (e : Int) > 455 := by omega
        clear hg
        go_wp2_with fail
        go_round
        case rel => exact ⟨f', e / 35, k + 36, by simp, by simp, by omega, by omega, HG.out⟩
        case measure => simp [intOf]; omega
      · rw [adaptL_end h5] at hg
        have h5I : ¬ (e : Int) > 455 := by omega
        have hq : 36 * e / (e + 38) ≤ 36 * e := Nat.div_le_self _ _
        have hqc : ((36 * e / (e + 38) : Nat) : Int) = 36 * (e : Int) / ((e : Int) + 38) := by simp
        have HG := Lib.hid hg
        generalize 36 * e / (e + 38) = q at *
        have HQ := Lib.hid hqc
        clear hg hqc
        go_wp2_with fail
        rw [← HQ.out]
        go_wp2_with fail
        go_ret
        exact ⟨ret_i64 (by rw [wrap64_inA _ (by omega) (by omega), ← HG.out]; simp), rfl⟩
end Go.Proofs.YtbonnmkkacplgaaGreatDoor
