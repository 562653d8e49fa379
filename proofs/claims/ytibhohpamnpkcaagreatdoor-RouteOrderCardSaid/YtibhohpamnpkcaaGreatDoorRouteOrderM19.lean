/- The reference's hexed, base, power, number of chapter 11. -/
import Derived.Test.YtibhohpamnpkcaaGreatDoorRouteOrderM18
import Derived.Test.YtibhohpamnpkcaaGreatDoorRouteOrderM3
import Derived.Test.YtibhohpamnpkcaaGreatDoorRouteOrderM9
import Derived.Test.YtibhohpamnpkcaaGreatDoorRouteOrderM16
import Derived.Test.YtibhohpamnpkcaaGreatDoorRouteOrderM4
import Derived.Test.YtibhohpamnpkcaaGreatDoorRouteOrderM5
import Derived.Test.YtibhohpamnpkcaaGreatDoorRouteOrderM11
import Derived.Test.YtibhohpamnpkcaaGreatDoorRouteOrderM1
import Derived.Laws.Tables
import Derived.Laws.ResultCell
import Derived.Laws.MakeOwn

namespace Go.Proofs.YtibhohpamnpkcaaGreatDoor
open Go.RowKit

set_option maxHeartbeats 800000 in
theorem ref11_hexed (s : ByteArray) (hs : s.size ≤ 16777216) (w : World) : Calls Tryz.prog 143 #[.string s] w fun e w' => e = .returned (.bool (hexedB s)) ∧ w = w' := by
  by_cases h1 : 1 < s.size
  · have g0 : 0 < s.size := by omega
    have b0 := byteAt_idx g0
    have b1 := byteAt_idx h1
    have hd : decide ((1 : Int) < (s.size : Int)) = true := decide_eq_true (by omega)
    have h1I : (1 : Int) < (s.size : Int) := by omega
    have hx : hexedB s = (decide (byteAt s 0 = 48) && (decide ((byteAt s 1).toNat = 120) || decide ((byteAt s 1).toNat = 88))) := by unfold hexedB; rw [decide_eq_true h1, Bool.true_and]
    have e1 : (((byteAt s 1).toNat : Int) == 120) = decide ((byteAt s 1).toNat = 120) := by rw [Bool.eq_iff_iff]; simp; omega
    have e2 : (((byteAt s 1).toNat : Int) == 88) = decide ((byteAt s 1).toNat = 88) := by rw [Bool.eq_iff_iff]; simp; omega
    by_cases h0 : byteAt s 0 = 48
    · have e0 : (((byteAt s 0).toNat : Int) == 48) = true := by rw [h0]; rfl
      rw [decide_eq_true h0, Bool.true_and] at hx
      rw [hx]
      clear hx h0
      generalize decide ((byteAt s 1).toNat = 120) = q1 at *
      generalize decide ((byteAt s 1).toNat = 88) = q2 at *
      cases q1 <;> cases q2
      all_goals
        go_enter Tryz.func143, Tryz.ntmps143
        go_wp2_with fail
        go_ret
        exact ⟨rfl, rfl⟩
    · have e0 : (((byteAt s 0).toNat : Int) == 48) = false := u8_ne' (b := 48) h0
      rw [decide_eq_false h0, Bool.false_and] at hx
      rw [hx]
      clear hx h0 e1 e2
      go_enter Tryz.func143, Tryz.ntmps143
      go_wp2_with fail
      go_ret
      exact ⟨rfl, rfl⟩
  · have hx : hexedB s = false := by unfold hexedB; rw [decide_eq_false h1, Bool.false_and]
    have hd : decide ((1 : Int) < (s.size : Int)) = false := decide_eq_false (by omega)
    rw [hx]
    go_enter Tryz.func143, Tryz.ntmps143
    go_wp2_with fail
    go_ret
    exact ⟨rfl, rfl⟩
set_option maxHeartbeats 800000 in
theorem ref11_base (s : ByteArray) (hs : s.size ≤ 16777216) (w : World) : Calls Tryz.prog 145 #[.string s] w fun e w' => e = .returned (.tuple #[.int .u64 ((formQ s).1 : Nat), .int .i64 ((formQ s).2.1 : Nat)]) ∧ w = w' := by
  have cH := Lib.hid (fun W => ref11_hexed s hs W)
  rcases formQ_three s with ⟨hx, hf, h2⟩ | ⟨hx, ho, hf, h2⟩ | ⟨hx, ho, hf⟩
  · rw [hx] at cH
    rw [hf]
    clear hf hx
    go_enter Tryz.func145, Tryz.ntmps145
    go_wp2_with fail
    refine (cH.out _).mono ?_
    rintro e w2 ⟨rfl, rfl⟩
    go_wp2_with fail
    go_ret2
    exact ⟨rfl, rfl⟩
  · rw [hx] at cH
    rw [hf]
    have g0 : 0 < s.size := by omega
    have b0 := byteAt_idx g0
    have h1I : (1 : Int) < (s.size : Int) := by omega
    have hd1 : decide ((1 : Int) < (s.size : Int)) = true := decide_eq_true h1I
    have h0 : byteAt s 0 = 48 := by unfold octB at ho; simp at ho; exact ho.2
    have e0 : (((byteAt s 0).toNat : Int) == 48) = true := by rw [h0]; rfl
    clear hf hx ho h0
    go_enter Tryz.func145, Tryz.ntmps145
    go_wp2_with fail
    refine (cH.out _).mono ?_
    rintro e w2 ⟨rfl, rfl⟩
    go_wp2_with fail
    go_ret2
    exact ⟨rfl, rfl⟩
  · rw [hx] at cH
    rw [hf]
    clear hf hx
    by_cases h1 : 1 < s.size
    · have g0 : 0 < s.size := by omega
      have b0 := byteAt_idx g0
      have h1I : (1 : Int) < (s.size : Int) := by omega
      have hd1 : decide ((1 : Int) < (s.size : Int)) = true := decide_eq_true h1I
      have h0 : byteAt s 0 ≠ 48 := by unfold octB at ho; simpa [h1] using ho
      have e0 : (((byteAt s 0).toNat : Int) == 48) = false := u8_ne' (b := 48) h0
      clear ho h0
      go_enter Tryz.func145, Tryz.ntmps145
      go_wp2_with fail
      refine (cH.out _).mono ?_
      rintro e w2 ⟨rfl, rfl⟩
      go_wp2_with fail
      go_ret2
      exact ⟨rfl, rfl⟩
    · have hd1 : decide ((1 : Int) < (s.size : Int)) = false := decide_eq_false (by omega)
      clear ho
      go_enter Tryz.func145, Tryz.ntmps145
      go_wp2_with fail
      refine (cH.out _).mono ?_
      rintro e w2 ⟨rfl, rfl⟩
      go_wp2_with fail
      go_ret2
      exact ⟨rfl, rfl⟩

theorem pow_le5 {i : Nat} (h : i ≤ 5) : 256 ^ i ≤ 1099511627776 := by
  have : 256 ^ i ≤ 256 ^ 5 := Nat.pow_le_pow_right (by omega) h
  omega
set_option maxHeartbeats 800000 in
theorem ref11_power (n : Nat) (hn : n ≤ 5) (w : World) : Calls Tryz.prog 147 #[.int .i64 (n : Int)] w fun e w' => e = .returned (.int .u64 (256 ^ n : Nat)) ∧ w' = w := by
  go_enter Tryz.func147, Tryz.ntmps147
  go_wp2_with fail
  go_loop [3, 4] (fun a x => ∃ i m : Nat, i ≤ n ∧ x = .int .i64 i ∧ a = .int .u64 m ∧ m = 256 ^ i) (fun _ x => n - (intOf x).toNat)
  case atStart => exact ⟨0, 1, Nat.zero_le _, rfl, rfl, rfl⟩
  case round =>
    obtain ⟨i, m, hil, rfl, rfl, hm⟩ := hrel
    have hp := pow_le5 (i := i) (by omega)
    rw [← hm] at hp
    have HM := Lib.hid hm
    have hpI : (m : Int) ≤ 1099511627776 := by omega
    clear hm hp
    by_cases hlt : i < n
    · go_wp2_with fail
      go_round
      case rel => exact ⟨i + 1, m * 256, by omega, by go_num, by go_num, by rw [HM.out, Nat.pow_succ]⟩
      case measure => simp [intOf]; omega
    · obtain rfl : i = n := by omega
      clear hpI
      go_wp2_with fail
      go_ret
      exact ⟨by rw [HM.out]; rfl, rfl⟩
end Go.Proofs.YtibhohpamnpkcaaGreatDoor

/- The reference's All. -/
namespace Go.Proofs.YtibhohpamnpkcaaGreatDoor
open Go.RowKit

set_option maxHeartbeats 1600000 in
theorem ref_All (s m : ByteArray) (w : World) (hs : s.size ≤ 140737488351232) (hm : m.size ≤ 140737488351232) : Calls Tryz.prog 144 #[.string s, .string m] w fun e w' => e = .returned (.bool (allB s m)) ∧ w = w' := by
  go_enter Tryz.func144, Tryz.ntmps144
  go_wp2_with fail
  go_loopw [5] (fun a wr => ∃ i : Nat, i ≤ s.size ∧ a = .int .i64 i ∧ (∀ j, j < i → hasB m (byteAt s j) = true) ∧ w = wr) (fun a _ => s.size - (intOf a).toNat)
  case atStart => exact ⟨0, Nat.zero_le _, rfl, fun j hj => by omega, rfl⟩
  case round =>
    obtain ⟨i, hil, rfl, hall, rfl⟩ := hrel
    have HA := Lib.hid hall
    clear hall
    by_cases hlt : i < s.size
    · have hbk : s[i] = byteAt s i := by simp [byteAt, List.getD, hlt]; rfl
      have HBK := Lib.hid hbk
      have hstep : hasB m (byteAt s i) = true → ∀ j, j < i + 1 → hasB m (byteAt s j) = true := fun h j hj => by
        by_cases hji : j = i
        · rw [hji]; exact h
        · exact HA.out j (by omega)
      have hno : hasB m (byteAt s i) = false → allB s m = false := allB_no hlt
      have HS := Lib.hid hstep
      have HN := Lib.hid hno
      clear hstep hno hbk
      go_wp2_with fail
      rw [HBK.out]
      clear HBK
      generalize byteAt s i = c at *
      refine (ref_Has m c _ hm).mono ?_
      rintro e w2 ⟨rfl, rfl⟩
      by_cases h1 : hasB m c = true
      · rw [h1]
        have H1 := Lib.hid (HS.out h1)
        clear h1
        go_wp2_with fail
        go_roundw
        case rel => exact ⟨i + 1, by omega, by go_num, H1.out, by trivial⟩
        case measure => simp [intOf]; omega
      · have h1 : hasB m c = false := by simpa using h1
        rw [h1]
        have H1 := Lib.hid (HN.out h1)
        clear h1
        go_wp2_with fail
        go_ret
        exact ⟨ret_bool H1.out.symm, rfl⟩
    · have hy := Lib.hid (allB_yes (s := s) (m := m) fun j hj => HA.out j (by omega))
      obtain rfl : i = s.size := by omega
      go_wp2_with fail
      go_ret
      exact ⟨ret_bool hy.out.symm, rfl⟩

end Go.Proofs.YtibhohpamnpkcaaGreatDoor

/- quad.Numeric, and the reference's. -/
namespace Go.Proofs.YtibhohpamnpkcaaGreatDoor
open Go.RowKit

/-- Behind which place the last point stands: 0: there is none. -/
def lastTo (s : ByteArray) : Nat → Nat
  | 0 => 0
  | k + 1 => if byteAt s k = 46 then k + 1 else lastTo s k
theorem lastTo_le (s : ByteArray) (k : Nat) : lastTo s k ≤ k := by
  induction k with
  | zero => exact Nat.le_refl _
  | succ k ih => unfold lastTo; split <;> omega
theorem lastTo_yes {s : ByteArray} {k : Nat} (h : byteAt s k = 46) : lastTo s (k + 1) = k + 1 := by rw [lastTo, if_pos h]
theorem lastTo_no {s : ByteArray} {k : Nat} (h : ¬ byteAt s k = 46) : lastTo s (k + 1) = lastTo s k := by rw [lastTo, if_neg h]
def lastS (s : ByteArray) : ByteArray := s.extract (lastTo s s.size) s.size
def numericB (s : ByteArray) : Bool := if hexedB (lastS (cutP s)) = true then allB ((lastS (cutP s)).extract 2 (lastS (cutP s)).size) hexQ else (!decide ((lastS (cutP s)).size = 0) && allB (lastS (cutP s)) decQ)
theorem lastS_size (s : ByteArray) : (lastS s).size ≤ s.size := by unfold lastS; rw [ByteArray.size_extract]; omega
set_option maxHeartbeats 6400000 in
set_option maxRecDepth 100000 in
theorem ref11_Numeric (s : ByteArray) (hs : s.size ≤ 16777216) (w : World) : Calls Tryz.prog 110 #[.string s] w fun e w' => e = .returned (.bool (numericB s)) ∧ w = w' := by
  have cC := Lib.hid (fun W => ref11_cut s hs W)
  have hcz := cutP_size s
  have hlz := lastS_size (cutP s)
  have hle := lastTo_le (cutP s) (cutP s).size
  have hex : (cutP s).extract (lastTo (cutP s) (cutP s).size) (cutP s).size = lastS (cutP s) := rfl
  have cH := Lib.hid (fun W => ref11_hexed (lastS (cutP s)) (by omega) W)
  have cA := Lib.hid (fun W => ref_All (lastS (cutP s)) decQ W (by omega) (by decide))
  have cA2 := Lib.hid (fun W => ref_All ((lastS (cutP s)).extract 2 (lastS (cutP s)).size) hexQ W (by rw [ByteArray.size_extract]; omega) (by decide))
  have hx2 : hexedB (lastS (cutP s)) = true → numericB s = allB ((lastS (cutP s)).extract 2 (lastS (cutP s)).size) hexQ := fun h => by unfold numericB; rw [if_pos h]
  have hx3 : hexedB (lastS (cutP s)) = false → numericB s = (!decide ((lastS (cutP s)).size = 0) && allB (lastS (cutP s)) decQ) := fun h => by unfold numericB; rw [if_neg (by simp [h])]
  have HHZ := Lib.hid (fun h => @hexedB_size (lastS (cutP s)) h)
  generalize lastS (cutP s) = l at *
  generalize cutP s = t at *
  have HX2 := Lib.hid hx2
  have HX3 := Lib.hid hx3
  have HEX := Lib.hid hex
  clear hx2 hx3 hex
  go_enter Tryz.func110, Tryz.ntmps110
  go_wp2_with fail
  refine (cC.out _).mono ?_
  rintro e w2 ⟨rfl, rfl⟩
  go_wp2_with fail
  go_loop [4] (fun x => ∃ k : Nat, k ≤ t.size ∧ x = .int .i64 (k : Int) ∧ lastTo t t.size = lastTo t k) (fun x => (intOf x).toNat)
  case atStart => exact ⟨t.size, Nat.le_refl _, rfl, rfl⟩
  case round =>
    obtain ⟨k, hk, rfl, hl⟩ := hrel
    have HL := Lib.hid hl
    clear hl
    have hgo : (∃ j, k = j + 1 ∧ ¬ byteAt t j = 46) ∨ (lastTo t k = k ∧ (k = 0 ∨ ∃ j, k = j + 1 ∧ byteAt t j = 46)) := by
      cases k with
      | zero => exact .inr ⟨rfl, .inl rfl⟩
      | succ j =>
        by_cases h : byteAt t j = 46
        · exact .inr ⟨lastTo_yes h, .inr ⟨j, rfl, h⟩⟩
        · exact .inl ⟨j, rfl, h⟩
    rcases hgo with ⟨j, rfl, h⟩ | ⟨hlk, hst⟩
    · have HV := Lib.hid (HL.out.trans (lastTo_no h))
      have e1 := u8_ne (b := 46) h
      have hlt : j < t.size := by omega
      have hb := byteAt_idx hlt
      have hjI : (j : Int) < (t.size : Int) := by omega
      have hj1 : ((j + 1 : Nat) : Int) - 1 = (j : Int) := by omega
      have d1 : decide ((0 : Int) < ((j + 1 : Nat) : Int)) = true := decide_eq_true (by omega)
      have e2 : (((byteAt t j).toNat : Int) != 46) = true := e1
      clear h
      go_wp2_with fail
      go_round
      case rel => exact ⟨j, by omega, by go_num, HV.out⟩
      case measure => simp [intOf]
    · have hex2 : t.extract k t.size = l := by rw [← HEX.out, HL.out, hlk]
      have HEX2 := Lib.hid hex2
      have hkI : (k : Int) ≤ (t.size : Int) := by omega
      clear hex2 hlk
      rcases hst with rfl | ⟨j, rfl, h⟩
      · obtain rfl : l = t := HEX2.out.symm.trans (whole t)
        go_wp2_with fail
        refine (cH.out _).mono ?_
        rintro e w3 ⟨rfl, rfl⟩
        cases hh : hexedB l with
        | true =>
          have HV := Lib.hid (HX2.out hh)
          have hl2 := HHZ.out hh
          have hl2I : (2 : Int) ≤ (l.size : Int) := by omega
          clear hh
          go_wp2_with fail
          refine (cA2.out _).mono ?_
          rintro e w4 ⟨rfl, rfl⟩
          go_wp2_with fail
          go_ret
          exact ⟨ret_bool HV.out.symm, rfl⟩
        | false =>
          have HV := Lib.hid (HX3.out hh)
          clear hh
          by_cases h0 : l.size = 0
          · have hd : decide ((0 : Int) < (l.size : Int)) = false := decide_eq_false (by omega)
            have hdn : ¬ 0 < l.size := by omega
            have hdd : decide (0 < l.size) = false := decide_eq_false hdn
            have hv : numericB s = false := by rw [HV.out, decide_eq_true h0]; rfl
            have HV2 := Lib.hid hv
            clear h0 hv
            go_wp2_with fail
            go_ret
            exact ⟨ret_bool HV2.out.symm, rfl⟩
          · have hd : decide ((0 : Int) < (l.size : Int)) = true := decide_eq_true (by omega)
            have hdn : 0 < l.size := by omega
            have hdI : (0 : Int) < (l.size : Int) := by omega
            have hv : numericB s = allB l decQ := by rw [HV.out, decide_eq_false h0]; rfl
            have HV2 := Lib.hid hv
            clear h0 hv
            go_wp2_with fail
            refine (cA.out _).mono ?_
            rintro e w4 ⟨rfl, rfl⟩
            go_wp2_with fail
            go_ret
            exact ⟨ret_bool HV2.out.symm, rfl⟩
      · have e1 : (((byteAt t j).toNat : Int) != 46) = false := u8_eq (b := 46) h
        have hlt : j < t.size := by omega
        have hb := byteAt_idx hlt
        have hjI : (j : Int) < (t.size : Int) := by omega
        have hj1 : ((j + 1 : Nat) : Int) - 1 = (j : Int) := by omega
        have d1 : decide ((0 : Int) < ((j + 1 : Nat) : Int)) = true := decide_eq_true (by omega)
        clear h
        go_wp2_with fail
        rw [HEX2.out]
        refine (cH.out _).mono ?_
        rintro e w3 ⟨rfl, rfl⟩
        cases hh : hexedB l with
        | true =>
          have HV := Lib.hid (HX2.out hh)
          have hl2 := HHZ.out hh
          have hl2I : (2 : Int) ≤ (l.size : Int) := by omega
          clear hh
          go_wp2_with fail
          refine (cA2.out _).mono ?_
          rintro e w4 ⟨rfl, rfl⟩
          go_wp2_with fail
          go_ret
          exact ⟨ret_bool HV.out.symm, rfl⟩
        | false =>
          have HV := Lib.hid (HX3.out hh)
          clear hh
          by_cases h0 : l.size = 0
          · have hd : decide ((0 : Int) < (l.size : Int)) = false := decide_eq_false (by omega)
            have hdn : ¬ 0 < l.size := by omega
            have hdd : decide (0 < l.size) = false := decide_eq_false hdn
            have hv : numericB s = false := by rw [HV.out, decide_eq_true h0]; rfl
            have HV2 := Lib.hid hv
            clear h0 hv
            go_wp2_with fail
            go_ret
            exact ⟨ret_bool HV2.out.symm, rfl⟩
          · have hd : decide ((0 : Int) < (l.size : Int)) = true := decide_eq_true (by omega)
            have hdn : 0 < l.size := by omega
            have hdI : (0 : Int) < (l.size : Int) := by omega
            have hv : numericB s = allB l decQ := by rw [HV.out, decide_eq_false h0]; rfl
            have HV2 := Lib.hid hv
            clear h0 hv
            go_wp2_with fail
            refine (cA.out _).mono ?_
            rintro e w4 ⟨rfl, rfl⟩
            go_wp2_with fail
            go_ret
            exact ⟨ret_bool HV2.out.symm, rfl⟩
end Go.Proofs.YtibhohpamnpkcaaGreatDoor

/- Queries' items: plain facts. -/
namespace Go.Proofs.YtibhohpamnpkcaaGreatDoor
open Go.RowKit

def okS (l : List UInt8) : Bool := (chrs (ofL l)).2.isNone
/-- The item of a part, or the error's kind and place. -/
def itemP (p : ByteArray) : Except (Nat × Nat) It :=
  match (told (cutN 61 p)).2 with
  | some i => .error (11, i)
  | none => match (told (cutV 61 p)).2 with
    | some i => .error (11, (cutN 61 p).size + 1 + i)
    | none => if okS (bytesT (cutN 61 p)) = true ∧ okS (bytesT (cutV 61 p)) = true then .ok ⟨ofL (bytesT (cutN 61 p)), ofL (bytesT (cutV 61 p)), cutH 61 p⟩ else .error (12, 0)
theorem itemP_bad1 {p : ByteArray} {i : Nat} (h : (told (cutN 61 p)).2 = some i) : itemP p = .error (11, i) := by unfold itemP; rw [h]
theorem itemP_bad2 {p : ByteArray} {i : Nat} (h0 : (told (cutN 61 p)).2 = none) (h : (told (cutV 61 p)).2 = some i) : itemP p = .error (11, (cutN 61 p).size + 1 + i) := by unfold itemP; rw [h0, h]
theorem itemP_utf {p : ByteArray} (h0 : (told (cutN 61 p)).2 = none) (h1 : (told (cutV 61 p)).2 = none) (h : ¬ (okS (bytesT (cutN 61 p)) = true ∧ okS (bytesT (cutV 61 p)) = true)) : itemP p = .error (12, 0) := by unfold itemP; rw [h0, h1]; exact if_neg h
theorem itemP_ok {p : ByteArray} (h0 : (told (cutN 61 p)).2 = none) (h1 : (told (cutV 61 p)).2 = none) (h : okS (bytesT (cutN 61 p)) = true ∧ okS (bytesT (cutV 61 p)) = true) : itemP p = .ok ⟨ofL (bytesT (cutN 61 p)), ofL (bytesT (cutV 61 p)), cutH 61 p⟩ := by unfold itemP; rw [h0, h1]; exact if_pos h
theorem itemP_kind {p : ByteArray} {k i : Nat} (h : itemP p = .error (k, i)) : k = 11 ∨ k = 12 := by
  unfold itemP at h
  split at h
  · cases h; exact .inl rfl
  · split at h
    · cases h; exact .inl rfl
    · split at h
      · cases h
      · cases h; exact .inr rfl

/-- What a part of a query gives. -/
def stepQ : StepG := fun p full => if p.size = 0 then none else if full = true then some (.error (15, 0)) else some (itemP p)
theorem stepQ_right : RightG stepQ where
  kind := by
    intro p b k i h
    unfold stepQ at h
    split at h
    · cases h
    · split at h
      · cases h; decide
      · have := itemP_kind (Option.some.inj h); omega
  none := by
    intro p b b' h
    unfold stepQ at h ⊢
    split at h
    · next h0 => rw [if_pos h0]
    · split at h <;> cases h
  full := by
    intro p x h
    unfold stepQ at h
    split at h
    · cases h
    · cases h
theorem stepQ_empty {p : ByteArray} {b : Bool} (h : p.size = 0) : stepQ p b = none := by unfold stepQ; rw [if_pos h]
theorem stepQ_many {p : ByteArray} (h : p.size ≠ 0) : stepQ p true = some (.error (15, 0)) := by unfold stepQ; rw [if_neg h, if_pos rfl]
theorem stepQ_item {p : ByteArray} (h : p.size ≠ 0) : stepQ p false = some (itemP p) := by unfold stepQ; rw [if_neg h, if_neg (by decide)]
def itemsQ (s : ByteArray) : List It × Nat × Nat := goG stepQ 256 (partsB 38 s) 0 []
end Go.Proofs.YtibhohpamnpkcaaGreatDoor

/- query.decode. -/
namespace Go.Proofs.YtibhohpamnpkcaaGreatDoor
open Go.RowKit

def QDecPost (s : ByteArray) (a : Nat) (w : World) (e : Ending) (w' : World) : Prop := Below w.heap.size w w' ∧ (((told s).2 = none ∧ e = .returned (.tuple #[.string (ofL (bytesT s)), .nilIface])) ∨ (∃ i n, (told s).2 = some i ∧ ∃ v, e = .returned (.tuple #[.string ⟨#[]⟩, v]) ∧ FaultIs w' v 11 ((a + i : Nat) : Int) n))
set_option maxHeartbeats 1600000 in
set_option maxRecDepth 100000 in
theorem query_decode (s : ByteArray) (a : Nat) (w : World) (hg : Handle w) (hs : s.size ≤ 16777216) (ha : a ≤ 16777216) (ht : ∀ i, (told s).2 = some i → i ≤ 16777216) : Calls Tryz.prog 126 #[.string s, .int .i64 (a : Int)] w (QDecPost s a w) := by
  have cD := Lib.hid (fun W => percent_Decode s W hs)
  have HT := Lib.hid ht
  clear ht
  go_enter Tryz.func126, Tryz.ntmps126
  go_wp2_with fail
  refine (cD.out _).mono ?_
  rintro e w1 ⟨hb1, h⟩
  have hg1 := hg.below hb1
  rcases h with ⟨hn, v, rfl, hown⟩ | ⟨i, hi, v, rfl, hv⟩
  · have hown2 := hown.below ((Below.refl w1.heap.size w1).alloc (Nat.le_refl _) (.cells #[.pointer none] 89))
    have hb2 : Below w.heap.size w (w1.alloc (.cells #[.pointer none] 89)) := hb1.alloc hb1.size _
    have hconv := hown2.conv
    have HN := Lib.hid hn
    clear hn hown
    go_wp2_with fail
    refine (as_nil _ _).mono ?_
    rintro e w2 ⟨rfl, rfl⟩
    go_wp2_with fail
    go_ret2
    exact ⟨hb2, .inl ⟨HN.out, rfl⟩⟩
  · obtain ⟨b, rfl, hblk⟩ := id hv
    have hlt := lt_of_block hblk
    have hi2 := HT.out i hi
    have hg2 : Handle (w1.alloc (.cells #[.pointer none] 89)) := hg1.below ((Below.refl _ _).alloc (Nat.le_refl _) _)
    have ht1 : (w1.alloc (.cells #[.pointer none] 89)).cell? ⟨w1.heap.size, 0, none⟩ = some (.pointer none) := by simp
    have hf1 : (w1.alloc (.cells #[.pointer none] 89)).frozen? ⟨w1.heap.size, 0, none⟩ = false := by simp
    have HI := Lib.hid hi
    clear hi hv
    go_wp2_with fail
    refine (as_hit ⟨b, 0, none⟩ ⟨w1.heap.size, 0, none⟩ (.pointer none) _ hg2 ht1 hf1).mono ?_
    rintro e w3 ⟨rfl, hw⟩
    obtain ⟨hb3, hc0⟩ := as_world b w1 _ w3 rfl hw
    have hcb : w3.cell? ⟨b, 1, none⟩ = some (.int .i64 (i : Int)) := by
      rw [hb3.cell hlt, cell_of_row w1 b 1 _ _ _ hblk]; rfl
    have hb13 := Bt hb1 hb3
    clear hw hg2 ht1 hf1 hblk hb3
    go_wp2_with fail
    refine (wrap_fault 11 _ _ _ ⟨_, _, rfl⟩).mono ?_
    rintro e w4 ⟨u, rfl, hu, hb4⟩
    have hb14 := Bt hb13 hb4
    have HU := Lib.hid hu
    clear hu
    go_wp2_with fail
    go_ret2
    exact ⟨hb14, .inr ⟨i, _, HI.out, u, rfl, by have := HU.out; rw [Int.natCast_add]; exact this⟩⟩
end Go.Proofs.YtibhohpamnpkcaaGreatDoor

/- An item in a variable of a function's own; given back out of it. -/
namespace Go.Proofs.YtibhohpamnpkcaaGreatDoor
open Go.RowKit

theorem size_item : (Tryz.prog.info? 102).map (·.size) = some 3 := by kernel_rfl
def itemA (n v : ByteArray) (h : Bool) : Array Value := #[.string n, .string v, .bool h]
/-- In block g lies an item. -/
def ItemAt (w : World) (g : Nat) (n v : ByteArray) (h : Bool) : Prop := w.heap[g]? = some (.cells #[.string n, .string v, .bool h] 102 (0, 0))
section
variable {w w' : World} {g : Nat} {n v : ByteArray} {b : Bool}
theorem ItemAt.new : ItemAt (w.alloc (.cells #[.string n, .string v, .bool b] 102)) w.heap.size n v b := heap_alloc_new w _
theorem ItemAt.lt (h : ItemAt w g n v b) : g < w.heap.size := lt_of_block h
theorem ItemAt.below (h : ItemAt w g n v b) (hb : Below w.heap.size w w') : ItemAt w' g n v b := (hb.block g h.lt).trans h
theorem ItemAt.below' {B : Nat} (h : ItemAt w g n v b) (hb : Below B w w') (hB : g < B) : ItemAt w' g n v b := (hb.block g hB).trans h
theorem ItemAt.drewN (h : ItemAt w g n v b) (m : Nat) : ItemAt (w.drewN m) g n v b := h
theorem ItemAt.set (h : ItemAt w g n v b) (n' v' : ByteArray) (b' : Bool) : ItemAt (w.setRow g #[.string n', .string v', .bool b']) g n' v' b' := setRow_heap w g _ _ _ _ h
theorem ItemAt.setHas (h : ItemAt w g n v b) (b' : Bool) : ItemAt (w.setCell ⟨g, 2, none⟩ (.bool b')) g n v b' := by
  unfold ItemAt at h ⊢; simp [World.setCell, Array.getElem?_modify, h]
theorem ItemAt.setValue (h : ItemAt w g n v b) (v' : ByteArray) : ItemAt (w.setCell ⟨g, 1, none⟩ (.string v')) g n v' b := by
  unfold ItemAt at h ⊢; simp [World.setCell, Array.getElem?_modify, h]
theorem ItemAt.setName (h : ItemAt w g n v b) (n' : ByteArray) : ItemAt (w.setCell ⟨g, 0, none⟩ (.string n')) g n' v b := by
  unfold ItemAt at h ⊢; simp [World.setCell, Array.getElem?_modify, h]
theorem ItemAt.setOther (h : ItemAt w g n v b) {q : Nat} (hq : q ≠ g) (j : Nat) (u : Value) : ItemAt (w.setCell ⟨q, j, none⟩ u) g n v b := (Below.heap_setCell w ⟨q, j, none⟩ u g (fun e => hq e.symm)).trans h
theorem ItemAt.frozen (h : ItemAt w g n v b) (j : Nat) : w.frozen? ⟨g, j, none⟩ = false := by
  unfold ItemAt at h; simp [World.frozen?, h]
theorem ItemAt.load (h : ItemAt w g n v b) : (loadVar 102 ⟨g, 0, none⟩).run Tryz.prog w = .ok (.agg #[.string n, .string v, .bool b]) w :=
  run_loadVar_row w g _ _ _ _ _ h Tryz.underlying102 rfl (by rw [size_item]; rfl)
theorem ItemAt.cells (h : ItemAt w g n v b) : w.cell? ⟨g, 0, none⟩ = some (.string n) ∧ w.cell? ⟨g, 1, none⟩ = some (.string v) ∧ w.cell? ⟨g, 2, none⟩ = some (.bool b) := by
  unfold ItemAt at h
  refine ⟨?_, ?_, ?_⟩
  · rw [cell_of_row w g 0 _ _ _ h]; rfl
  · rw [cell_of_row w g 1 _ _ _ h]; rfl
  · rw [cell_of_row w g 2 _ _ _ h]; rfl
end
theorem below_setRowI {B : Nat} {a w : World} (h : Below B a w) {g : Nat} (hg : B ≤ g) (cs : Array Value) : Below B a (w.setRow g cs) :=
  ⟨h.os, h.tape, h.output, by simpa using h.size, fun k hk => (setRow_other w g k cs (by omega)).trans (h.block k hk)⟩
theorem FaultIs.setItem {w : World} {x : Value} {k i : Int} {m : Value} {g : Nat} {n v : ByteArray} {b : Bool} (h : FaultIs w x k i m) (hg : ItemAt w g n v b) (ds : Array Value) : FaultIs (w.setRow g ds) x k i m := by
  obtain ⟨q, rfl, hh⟩ := h
  have hne : q ≠ g := by
    rintro rfl
    unfold ItemAt at hg
    rw [hh] at hg
    injection hg with this
    injection this with h1 h2
    injection h1 with h3
    injection h3 with h4
    cases h4
  exact ⟨q, rfl, (setRow_other w g q ds hne).trans hh⟩
section
variable {fn : Func} {p u : Tmp} {tmps : Array Value} {w : World} {g : Nat} {n v : ByteArray} {b : Bool}
theorem results_item (h : fn.results = #[.cell p 102, .tmp u]) (hp : tmps.getD p undef = .pointer (some ⟨g, 0, none⟩)) (hg : ItemAt w g n v b) :
    (results fn tmps).run Tryz.prog w = .ok (.tuple #[.agg #[.string n, .string v, .bool b], tmps.getD u undef]) w := by
  rw [results_cell_tmp h, hp]
  simp [asAddr, Result.andThen, hg.load]
end
section
variable {w : World} {ops : Array Oper} {rest : List Oper} {o : Oper} {a : Act} {Q : Exit → Act → World → Prop}
theorem all_item (n v : ByteArray) (b : Bool) : (#[Value.string n, .string v, .bool b] : Array Value).all (·.oneCell') = true := by simp [Value.oneCell']
/-- An item is stored into a variable of the function's own. -/
theorem wpList_store_item (hgd : o.guard = none) (x y : Operand) (ho : o.op = .store 102 x y) (g : Nat) (n v : ByteArray) (b : Bool) (hx : a.eval x = .pointer (some ⟨g, 0, none⟩)) (hy : a.eval y = .agg #[.string n, .string v, .bool b]) (n0 v0 : ByteArray) (b0 : Bool) (hg : ItemAt w g n0 v0 b0)
    (h : ItemAt (w.setRow g #[.string n, .string v, .bool b]) g n v b → wpList Tryz.prog ops Q rest (a.put o.dst undef) (w.setRow g #[.string n, .string v, .bool b])) : wpList Tryz.prog ops Q (o :: rest) a w :=
  wpList_store_row hgd _ x y ho g _ hx hy _ _ hg (by rw [size_item]; rfl) rfl (all_item n v b) (h (hg.set _ _ _))
end
end Go.Proofs.YtibhohpamnpkcaaGreatDoor

/- errors.Join of two. (Printed by gen_errjoin.py.) -/
namespace Go.Proofs.YtibhohpamnpkcaaGreatDoor
open Go.RowKit

theorem info_err : (Tryz.prog.info? 42).map (fun i => (i.zero, i.size, i.bytes)) = some (some .nilIface, 1, 16) := by kernel_rfl
set_option maxHeartbeats 1600000 in
set_option maxRecDepth 100000 in
theorem join_nils (g c : Nat) (w : World) (h0 : w.cell? ⟨g, 0, none⟩ = some .nilIface) (h1 : w.cell? ⟨g, 1, none⟩ = some .nilIface) :
    Calls Tryz.prog 127 #[.slice (some ⟨g, 0, none⟩) 2 c] w fun e w' => e = .returned .nilIface ∧ w = w' := by
  go_enter Tryz.func127, Tryz.ntmps127
  go_wp2_with fail
  refine wp_loop_rounds 3 ?_
  rw [rounds_succ]
  go_wp2_with fail
  rw [rounds_succ]
  go_wp2_with fail
  rw [rounds_succ]
  go_wp2_with fail
  go_ret
  exact ⟨rfl, rfl⟩

/-- The errors that are put together: a row of the call's own, told in block p. -/
def JE (w0 w : World) (p n k : Nat) : Prop := Below w0.heap.size w0 w ∧ w0.heap.size < p ∧ w.heap[p]? = some (.cells #[.slice (some ⟨w0.heap.size, 0, none⟩) k n] 268 (0, 0)) ∧ ∃ xs, w.ownsRow w0.heap.size 42 1 (.slice (some ⟨w0.heap.size, 0, none⟩) k n) k xs
theorem JE.start {w0 w1 : World} {n : Nat} (hb : Below w0.heap.size w0 w1) (hs : w0.heap.size < w1.heap.size) (h : w1.ownsRow w0.heap.size 42 1 (.slice (some ⟨w0.heap.size, 0, none⟩) 0 n) 0 []) :
    JE w0 (w1.alloc (.cells #[.slice (some ⟨w0.heap.size, 0, none⟩) 0 n] 268)) w1.heap.size n 0 :=
  ⟨hb.alloc hb.size _, hs, heap_alloc_new w1 _, _, ownsRow_below h ((Below.refl _ _).alloc (Nat.le_refl _) _)⟩
theorem JE.below {w0 w : World} {p n k : Nat} (h : JE w0 w p n k) : Below w0.heap.size w0 w := h.1
theorem JE.load {w0 w : World} {p n k : Nat} (h : JE w0 w p n k) : w.cell? ⟨p, 0, none⟩ = some (.slice (some ⟨w0.heap.size, 0, none⟩) k n) := by rw [cell_of_row w p 0 _ _ _ h.2.2.1]; rfl
theorem JE.own {w0 w : World} {p n k : Nat} (h : JE w0 w p n k) (t : TypeId) (x : Value) : ∃ xs, (w.alloc (.cells #[.iface t x] 42)).ownsRow w0.heap.size 42 1 (.slice (some ⟨w0.heap.size, 0, none⟩) k n) k xs := by
  obtain ⟨_, _, _, xs, h⟩ := h
  exact ⟨xs, ownsRow_below h ((Below.refl _ _).alloc (Nat.le_refl _) _)⟩
/-- One more. -/
theorem JE.step {w0 w w2 : World} {p n k : Nat} {t : TypeId} {x : Value} {ys : List Value} (h : JE w0 w p n k) (ho : w2.ownsRow w0.heap.size 42 1 (.slice (some ⟨w0.heap.size, 0, none⟩) (k + 1) n) (k + 1) ys) (hg : (w.alloc (.cells #[.iface t x] 42)).grownBy w2 (some w0.heap.size)) :
    w2.cell? ⟨p, 0, none⟩ = some (.slice (some ⟨w0.heap.size, 0, none⟩) k n) ∧ w2.frozen? ⟨p, 0, none⟩ = false ∧ (∀ g j v, g < w0.heap.size → w.cell? ⟨g, j, none⟩ = some v → (w2.setCell ⟨p, 0, none⟩ (.slice (some ⟨w0.heap.size, 0, none⟩) (k + 1) n)).cell? ⟨g, j, none⟩ = some v) ∧
    JE w0 (w2.setCell ⟨p, 0, none⟩ (.slice (some ⟨w0.heap.size, 0, none⟩) (k + 1) n)) p n (k + 1) := by
  obtain ⟨hb, hp, hc, xs, _⟩ := h
  have hpl := lt_of_block hc
  have h2 : w2.heap[p]? = some (.cells #[.slice (some ⟨w0.heap.size, 0, none⟩) k n] 268 (0, 0)) := by
    rw [hg.block p (by simp; omega) (fun e => by injection e with e; omega), heap_alloc_old w _ hpl]; exact hc
  have hbb : Below w0.heap.size w0 (w2.setCell ⟨p, 0, none⟩ (.slice (some ⟨w0.heap.size, 0, none⟩) (k + 1) n)) :=
    ((hb.alloc hb.size _).grown hg (by simp; have := hb.size; omega) (fun j hj => by injection hj with hj; omega)).setCell (by show w0.heap.size ≤ p; omega) _
  refine ⟨by rw [cell_of_row w2 p 0 _ _ _ h2]; rfl, by simp [World.frozen?, h2], fun g j v hgl hv => ?_, hbb, hp, ?_, ys, ?_⟩
  · rw [hbb.cell (p := ⟨g, j, none⟩) hgl, ← hb.cell (p := ⟨g, j, none⟩) hgl]; exact hv
  · simp [World.setCell, Array.getElem?_modify, h2]
  · exact ownsRow_setCell_other ho (by show some w0.heap.size ≠ some p; intro e; injection e with e; omega) _

set_option maxHeartbeats 1600000 in
set_option maxRecDepth 100000 in
theorem join_fn (g c : Nat) (t1 : TypeId) (p1 : Value) (w : World) (hg : g < w.heap.size) (h0 : w.cell? ⟨g, 0, none⟩ = some (.iface t1 p1)) (h1 : w.cell? ⟨g, 1, none⟩ = some (.nilIface)) :
    Calls Tryz.prog 127 #[.slice (some ⟨g, 0, none⟩) 2 c] w fun e w' => ∃ p, e = .returned (.iface 266 p) ∧ Below w.heap.size w w' := by
  obtain ⟨i0, hi, hz0, hz1, hz2⟩ := info_parts info_err
  go_enter Tryz.func127, Tryz.ntmps127
  go_wp2_with fail
  refine wp_loop_rounds 3 ?_
  rw [rounds_succ]
  go_wp2_with fail
  rw [rounds_succ]
  go_wp2_with fail
  rw [rounds_succ]
  go_wp2_with (refine wpList_make_own _ rfl _ _ 164 rfl w.heap.size 42 i0 .nilIface 1 Tryz.underlying164 hi hz0 hz1 .i64 .i64 _ 1 rfl rfl rfl (by rw [hz2]; decide) (by decide) (Nat.le_refl _) ?_)
  intro w1 hown1 hg1
  have hb1 : Below w.heap.size w w1 := (Below.refl _ _).grown hg1 (Nat.le_refl _) (fun j hj => by cases hj)
  have hs1 : w.heap.size < w1.heap.size := (World.ownsRow.lt hown1 _ rfl).2
  have a0 := (hb1.cell (p := ⟨g, 0, none⟩) hg).trans h0
  have a1 := (hb1.cell (p := ⟨g, 1, none⟩) hg).trans h1
  have hg' : g < w1.heap.size := Nat.lt_of_lt_of_le hg hb1.size
  have hJ : JE w (w1.alloc (.cells #[.slice (some ⟨w.heap.size, 0, none⟩) 0 1] 268)) w1.heap.size 1 0 := JE.start hb1 hs1 hown1
  clear hg1 hown1 h0 h1 hb1
  go_wp2_with fail
  refine wp_loop_rounds 3 ?_
  have b0 := (World.cell?_alloc_lt w1 (.cells #[.slice (some ⟨w.heap.size, 0, none⟩) 0 1] 268) ⟨g, 0, none⟩ hg').trans a0
  have b1 := (World.cell?_alloc_lt w1 (.cells #[.slice (some ⟨w.heap.size, 0, none⟩) 0 1] 268) ⟨g, 1, none⟩ hg').trans a1
  clear a0 a1
  generalize w1.heap.size = p at *
  generalize w1.alloc (.cells #[.slice (some ⟨w.heap.size, 0, none⟩) 0 1] 268) = w2 at *
  rw [rounds_succ]
  have c0 := hJ.load
  obtain ⟨xs0, hown0⟩ := hJ.own t1 p1
  go_wp2_with (at_builtin; refine wpList_append_fits _ rfl _ _ 164 rfl w.heap.size 42 i0 1 Tryz.underlying164 hi hz1 w.heap.size 0 1 xs0 rfl hown0 ⟨w2.heap.size, 0, none⟩ 1 1 [.iface t1 p1] rfl rfl (by intro j u hj; match j, hj with | 0, hj => simp at hj; subst hj; simp [Addr.add]) (by intro u hu; simp at hu; subst hu; rfl) (by omega) ?_)
  intro wx0 hown0' hgr0
  obtain ⟨c0', f0, hk0, hJ'⟩ := hJ.step hown0' hgr0
  have b1 := hk0 g 1 _ hg b1
  clear c0 hown0 hown0' hgr0 b0 hk0 hJ
  go_wp2_with fail
  clear c0' f0
  have hJ := hJ'
  clear hJ'
  generalize wx0.setCell ⟨p, 0, none⟩ (.slice (some ⟨w.heap.size, 0, none⟩) (0 + 1) 1) = wz0 at *
  rw [rounds_succ]
  go_wp2_with fail
  rw [rounds_succ]
  go_wp2_with fail
  go_ret
  exact ⟨_, rfl, hJ.below⟩
set_option maxHeartbeats 1600000 in
set_option maxRecDepth 100000 in
theorem join_nf (g c : Nat) (t2 : TypeId) (p2 : Value) (w : World) (hg : g < w.heap.size) (h0 : w.cell? ⟨g, 0, none⟩ = some (.nilIface)) (h1 : w.cell? ⟨g, 1, none⟩ = some (.iface t2 p2)) :
    Calls Tryz.prog 127 #[.slice (some ⟨g, 0, none⟩) 2 c] w fun e w' => ∃ p, e = .returned (.iface 266 p) ∧ Below w.heap.size w w' := by
  obtain ⟨i0, hi, hz0, hz1, hz2⟩ := info_parts info_err
  go_enter Tryz.func127, Tryz.ntmps127
  go_wp2_with fail
  refine wp_loop_rounds 3 ?_
  rw [rounds_succ]
  go_wp2_with fail
  rw [rounds_succ]
  go_wp2_with fail
  rw [rounds_succ]
  go_wp2_with (refine wpList_make_own _ rfl _ _ 164 rfl w.heap.size 42 i0 .nilIface 1 Tryz.underlying164 hi hz0 hz1 .i64 .i64 _ 1 rfl rfl rfl (by rw [hz2]; decide) (by decide) (Nat.le_refl _) ?_)
  intro w1 hown1 hg1
  have hb1 : Below w.heap.size w w1 := (Below.refl _ _).grown hg1 (Nat.le_refl _) (fun j hj => by cases hj)
  have hs1 : w.heap.size < w1.heap.size := (World.ownsRow.lt hown1 _ rfl).2
  have a0 := (hb1.cell (p := ⟨g, 0, none⟩) hg).trans h0
  have a1 := (hb1.cell (p := ⟨g, 1, none⟩) hg).trans h1
  have hg' : g < w1.heap.size := Nat.lt_of_lt_of_le hg hb1.size
  have hJ : JE w (w1.alloc (.cells #[.slice (some ⟨w.heap.size, 0, none⟩) 0 1] 268)) w1.heap.size 1 0 := JE.start hb1 hs1 hown1
  clear hg1 hown1 h0 h1 hb1
  go_wp2_with fail
  refine wp_loop_rounds 3 ?_
  have b0 := (World.cell?_alloc_lt w1 (.cells #[.slice (some ⟨w.heap.size, 0, none⟩) 0 1] 268) ⟨g, 0, none⟩ hg').trans a0
  have b1 := (World.cell?_alloc_lt w1 (.cells #[.slice (some ⟨w.heap.size, 0, none⟩) 0 1] 268) ⟨g, 1, none⟩ hg').trans a1
  clear a0 a1
  generalize w1.heap.size = p at *
  generalize w1.alloc (.cells #[.slice (some ⟨w.heap.size, 0, none⟩) 0 1] 268) = w2 at *
  rw [rounds_succ]
  go_wp2_with fail
  rw [rounds_succ]
  have c1 := hJ.load
  obtain ⟨xs1, hown1⟩ := hJ.own t2 p2
  go_wp2_with (at_builtin; refine wpList_append_fits _ rfl _ _ 164 rfl w.heap.size 42 i0 1 Tryz.underlying164 hi hz1 w.heap.size 0 1 xs1 rfl hown1 ⟨w2.heap.size, 0, none⟩ 1 1 [.iface t2 p2] rfl rfl (by intro j u hj; match j, hj with | 0, hj => simp at hj; subst hj; simp [Addr.add]) (by intro u hu; simp at hu; subst hu; rfl) (by omega) ?_)
  intro wx1 hown1' hgr1
  obtain ⟨c1', f1, hk1, hJ'⟩ := hJ.step hown1' hgr1
  have b1 := hk1 g 1 _ hg b1
  clear c1 hown1 hown1' hgr1 b0 hk1 hJ
  go_wp2_with fail
  clear c1' f1
  have hJ := hJ'
  clear hJ'
  generalize wx1.setCell ⟨p, 0, none⟩ (.slice (some ⟨w.heap.size, 0, none⟩) (0 + 1) 1) = wz1 at *
  rw [rounds_succ]
  go_wp2_with fail
  go_ret
  exact ⟨_, rfl, hJ.below⟩
set_option maxHeartbeats 1600000 in
set_option maxRecDepth 100000 in
theorem join_ff (g c : Nat) (t1 : TypeId) (p1 : Value) (t2 : TypeId) (p2 : Value) (w : World) (hg : g < w.heap.size) (h0 : w.cell? ⟨g, 0, none⟩ = some (.iface t1 p1)) (h1 : w.cell? ⟨g, 1, none⟩ = some (.iface t2 p2)) :
    Calls Tryz.prog 127 #[.slice (some ⟨g, 0, none⟩) 2 c] w fun e w' => ∃ p, e = .returned (.iface 266 p) ∧ Below w.heap.size w w' := by
  obtain ⟨i0, hi, hz0, hz1, hz2⟩ := info_parts info_err
  go_enter Tryz.func127, Tryz.ntmps127
  go_wp2_with fail
  refine wp_loop_rounds 3 ?_
  rw [rounds_succ]
  go_wp2_with fail
  rw [rounds_succ]
  go_wp2_with fail
  rw [rounds_succ]
  go_wp2_with (refine wpList_make_own _ rfl _ _ 164 rfl w.heap.size 42 i0 .nilIface 1 Tryz.underlying164 hi hz0 hz1 .i64 .i64 _ 2 rfl rfl rfl (by rw [hz2]; decide) (by decide) (Nat.le_refl _) ?_)
  intro w1 hown1 hg1
  have hb1 : Below w.heap.size w w1 := (Below.refl _ _).grown hg1 (Nat.le_refl _) (fun j hj => by cases hj)
  have hs1 : w.heap.size < w1.heap.size := (World.ownsRow.lt hown1 _ rfl).2
  have a0 := (hb1.cell (p := ⟨g, 0, none⟩) hg).trans h0
  have a1 := (hb1.cell (p := ⟨g, 1, none⟩) hg).trans h1
  have hg' : g < w1.heap.size := Nat.lt_of_lt_of_le hg hb1.size
  have hJ : JE w (w1.alloc (.cells #[.slice (some ⟨w.heap.size, 0, none⟩) 0 2] 268)) w1.heap.size 2 0 := JE.start hb1 hs1 hown1
  clear hg1 hown1 h0 h1 hb1
  go_wp2_with fail
  refine wp_loop_rounds 3 ?_
  have b0 := (World.cell?_alloc_lt w1 (.cells #[.slice (some ⟨w.heap.size, 0, none⟩) 0 2] 268) ⟨g, 0, none⟩ hg').trans a0
  have b1 := (World.cell?_alloc_lt w1 (.cells #[.slice (some ⟨w.heap.size, 0, none⟩) 0 2] 268) ⟨g, 1, none⟩ hg').trans a1
  clear a0 a1
  generalize w1.heap.size = p at *
  generalize w1.alloc (.cells #[.slice (some ⟨w.heap.size, 0, none⟩) 0 2] 268) = w2 at *
  rw [rounds_succ]
  have c0 := hJ.load
  obtain ⟨xs0, hown0⟩ := hJ.own t1 p1
  go_wp2_with (at_builtin; refine wpList_append_fits _ rfl _ _ 164 rfl w.heap.size 42 i0 1 Tryz.underlying164 hi hz1 w.heap.size 0 2 xs0 rfl hown0 ⟨w2.heap.size, 0, none⟩ 1 1 [.iface t1 p1] rfl rfl (by intro j u hj; match j, hj with | 0, hj => simp at hj; subst hj; simp [Addr.add]) (by intro u hu; simp at hu; subst hu; rfl) (by omega) ?_)
  intro wx0 hown0' hgr0
  obtain ⟨c0', f0, hk0, hJ'⟩ := hJ.step hown0' hgr0
  have b1 := hk0 g 1 _ hg b1
  clear c0 hown0 hown0' hgr0 b0 hk0 hJ
  go_wp2_with fail
  clear c0' f0
  have hJ := hJ'
  clear hJ'
  generalize wx0.setCell ⟨p, 0, none⟩ (.slice (some ⟨w.heap.size, 0, none⟩) (0 + 1) 2) = wz0 at *
  rw [rounds_succ]
  have c1 := hJ.load
  obtain ⟨xs1, hown1⟩ := hJ.own t2 p2
  go_wp2_with (at_builtin; refine wpList_append_fits _ rfl _ _ 164 rfl w.heap.size 42 i0 1 Tryz.underlying164 hi hz1 w.heap.size 1 2 xs1 rfl hown1 ⟨wz0.heap.size, 0, none⟩ 1 1 [.iface t2 p2] rfl rfl (by intro j u hj; match j, hj with | 0, hj => simp at hj; subst hj; simp [Addr.add]) (by intro u hu; simp at hu; subst hu; rfl) (by omega) ?_)
  intro wx1 hown1' hgr1
  obtain ⟨c1', f1, hk1, hJ'⟩ := hJ.step hown1' hgr1
  have b1 := hk1 g 1 _ hg b1
  clear c1 hown1 hown1' hgr1 hk1 hJ
  go_wp2_with fail
  clear c1' f1
  have hJ := hJ'
  clear hJ'
  generalize wx1.setCell ⟨p, 0, none⟩ (.slice (some ⟨w.heap.size, 0, none⟩) (1 + 1) 2) = wz1 at *
  rw [rounds_succ]
  go_wp2_with fail
  go_ret
  exact ⟨_, rfl, hJ.below⟩
/-- Of two errors, one of which at least there is. -/
theorem errors_Join2 (g c : Nat) (x y : Value) (w : World) (hg : g < w.heap.size) (h0 : w.cell? ⟨g, 0, none⟩ = some x) (h1 : w.cell? ⟨g, 1, none⟩ = some y) (hx : x = .nilIface ∨ ∃ t p, x = .iface t p) (hy : y = .nilIface ∨ ∃ t p, y = .iface t p) :
    Calls Tryz.prog 127 #[.slice (some ⟨g, 0, none⟩) 2 c] w fun e w' => Below w.heap.size w w' ∧ ((x = .nilIface ∧ y = .nilIface ∧ e = .returned .nilIface) ∨ (¬ (x = .nilIface ∧ y = .nilIface) ∧ ∃ p, e = .returned (.iface 266 p))) := by
  rcases hx with rfl | ⟨t1, p1, rfl⟩
  · rcases hy with rfl | ⟨t2, p2, rfl⟩
    · exact (join_nils g c w h0 h1).mono fun e w' ⟨a, b⟩ => by subst b; exact ⟨Below.refl _ _, .inl ⟨rfl, rfl, a⟩⟩
    · exact (join_nf g c t2 p2 w hg h0 h1).mono fun e w' ⟨p, a, b⟩ => ⟨b, .inr ⟨(fun h => by cases h.2), p, a⟩⟩
  · rcases hy with rfl | ⟨t2, p2, rfl⟩
    · exact (join_fn g c t1 p1 w hg h0 h1).mono fun e w' ⟨p, a, b⟩ => ⟨b, .inr ⟨(fun h => by cases h.1), p, a⟩⟩
    · exact (join_ff g c t1 p1 t2 p2 w hg h0 h1).mono fun e w' ⟨p, a, b⟩ => ⟨b, .inr ⟨(fun h => by cases h.1), p, a⟩⟩
end Go.Proofs.YtibhohpamnpkcaaGreatDoor
