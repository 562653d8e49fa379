/- The reference's Right of chapter 10. -/
import Derived.Test.YtbonnmkkacplgaaGreatDoorLabelNamesM15
import Derived.Test.YtbonnmkkacplgaaGreatDoorLabelNamesM26
import Derived.Test.YtbonnmkkacplgaaGreatDoorLabelNamesM5
import Derived.Deep.RegionHeld
import Derived.IntWalk
import Derived.Deep.DeepCutAuto
import Derived.Test.YtbonnmkkacplgaaGreatDoorLabelNamesM2
import Derived.Test.YtbonnmkkacplgaaGreatDoorLabelNamesM6
import Derived.Test.YtbonnmkkacplgaaGreatDoorLabelNamesM12

namespace Go.Proofs.YtbonnmkkacplgaaGreatDoor
open Go.RowKit

theorem u8_beq45 (b : UInt8) : ((b.toNat : Int) == 45) = decide (b = 45) := by
  by_cases h : b = 45
  · subst h; rfl
  · rw [decide_eq_false h, beq_eq_false_iff_ne]
    intro e
    apply h
    apply UInt8.toNat_inj.1
    show b.toNat = 45
    omega
def RRightPost (s : ByteArray) (w : World) (e : Ending) (w' : World) : Prop := Below w.heap.size w w' ∧ e = .returned (.tuple #[.int .i64 ((rightL s).1 : Int), .int .i64 ((rightL s).2 : Int)])
set_option maxHeartbeats 6400000 in
set_option maxRecDepth 100000 in
theorem ref10_Right (s : ByteArray) (w : World) (hs : s.size ≤ 1000000) : Calls Tryz.prog 20 #[.string s] w (RRightPost s w) := by
  by_cases h0 : s.size = 0
  · have e1 : ((s.size : Int) == 0) = true := by rw [h0]; rfl
    have HR := Lib.hid (rightL_empty h0)
    clear h0
    go_enter Tryz.func20, Tryz.ntmps20
    go_wp2_with fail
    go_ret2
    exact ⟨Below.refl _ _, by rw [HR.out]; rfl⟩
  have e1 : ((s.size : Int) == 0) = false := by rw [beq_eq_false_iff_ne]; omega
  by_cases h63 : 63 < s.size
  · have hI : (s.size : Int) > 63 := by omega
    have HR := Lib.hid (rightL_long h0 h63)
    clear h0 h63
    go_enter Tryz.func20, Tryz.ntmps20
    go_wp2_with fail
    go_ret2
    exact ⟨Below.refl _ _, by rw [HR.out]; rfl⟩
  have hI : ¬ (s.size : Int) > 63 := by omega
  have HBAD := Lib.hid (fun i h => rightL_bad (s := s) (i := i) h0 h63 h)
  have HFINE := Lib.hid (fun h => rightL_fine (s := s) h0 h63 h)
  have hpos : 0 < s.size := Nat.pos_of_ne_zero h0
  have HSMN := Lib.hid (fun k => bad_next (s := s) (r := s.size - (k + 1)) (k := k))
  have HSMH := Lib.hid (fun k => bad_hit (s := s) (r := s.size - (k + 1)) (k := k))
  have cD := Lib.hid (fun W => ref10_Coded s W (by omega))
  clear h0
  go_enter Tryz.func20, Tryz.ntmps20
  go_wp2_with fail
  go_loopw [4] (fun v wr => ∃ i : Nat, i ≤ s.size ∧ v = .int .i64 i ∧ badAt s (s.size - i) i = badAt s s.size 0 ∧ wr = w) (fun v _ => s.size - (intOf v).toNat)
  case atStart => exact ⟨0, Nat.zero_le _, rfl, rfl, rfl⟩
  case round =>
    obtain ⟨i, hil, rfl, hba, rfl⟩ := hrel
    by_cases hlt : i < s.size
    · have hiI : (i : Int) < (s.size : Int) := by omega
      have hr1 : s.size - i = (s.size - (i + 1)) + 1 := by omega
      have hnx := HSMN.out i
      have hht := HSMH.out i
      rw [hr1] at hba
      have hb256 := (byteAt s i).toNat_lt
      have c3 := Lib.hid (fun W => ref10_small ((byteAt s i).toNat : Int) W (by omega) (by omega))
      rw [← str_ix hlt] at hnx hht c3 hb256
      clear hr1
      cases hsm : smallZ (s[i].toNat : Int) with
      | true =>
        rw [hsm] at c3
        have hb3 := (hnx hsm).symm.trans hba
        have HB3 := Lib.hid hb3
        clear hnx hht hsm hba hb3
        go_wp2_with fail
        refine (c3.out _).mono ?_
        rintro e w5 ⟨rfl, hw5⟩
        obtain rfl := hw5
        go_wp2_with fail
        go_roundw
        case rel => exact ⟨i + 1, by omega, by go_num, HB3.out, by first | rfl | trivial⟩
        case measure => simp [intOf]; omega
      | false =>
        rw [hsm] at c3
        have HR := Lib.hid (HBAD.out i (hba.symm.trans (hht hsm)))
        clear hnx hht hsm hba
        go_wp2_with fail
        refine (c3.out _).mono ?_
        rintro e w5 ⟨rfl, hw5⟩
        obtain rfl := hw5
        go_wp2_with fail
        go_ret2
        exact ⟨Below.refl _ _, by rw [HR.out]; rfl⟩
    · obtain rfl : i = s.size := by omega
      have hiI : ¬ (s.size : Int) < (s.size : Int) := by omega
      have hnone : badAt s s.size 0 = none := by rw [← hba, Nat.sub_self]; rfl
      have HF := Lib.hid (HFINE.out hnone)
      have hx0 := u8_beq45 (byteAt s 0)
      have hx1 := u8_beq45 (byteAt s (s.size - 1))
      rw [← str_ix hpos] at hx0
      rw [← str_ix (show s.size - 1 < s.size by omega)] at hx1
      have hfb : fineB s = (decide (byteAt s 0 ≠ 45) && decide (byteAt s (s.size - 1) ≠ 45) && (!codedB s || (labD s).isSome)) := rfl
      rw [← str_ix hpos, ← str_ix (show s.size - 1 < s.size by omega)] at hfb
      have hlI : (s.size : Int) - 1 = ((s.size - 1 : Nat) : Int) := by omega
      have hposI : (0 : Int) < (s.size : Int) := by omega
      have HFB := Lib.hid hfb
      clear hba hnone hfb
      by_cases q0 : s[0] = 45
      · have n0 : ((s[0].toNat : Int) == 45) = true := by rw [hx0]; exact decide_eq_true q0
        have hr := HF.out
        rw [HFB.out, if_neg (by simp [q0])] at hr
        have HR := Lib.hid hr
        clear hx0 hx1 q0 hr
        go_wp2_with fail
        go_ret2
        exact ⟨Below.refl _ _, by rw [HR.out]; rfl⟩
      have n0 : ((s[0].toNat : Int) == 45) = false := by rw [hx0]; exact decide_eq_false q0
      by_cases q1 : s[s.size - 1] = 45
      · have n1 : ((s[s.size - 1].toNat : Int) == 45) = true := by rw [hx1]; exact decide_eq_true q1
        have hr := HF.out
        rw [HFB.out, if_neg (by simp [q1])] at hr
        have HR := Lib.hid hr
        clear hx0 hx1 q0 q1 hr
        go_wp2_with fail
        go_ret2
        exact ⟨Below.refl _ _, by rw [HR.out]; rfl⟩
      have n1 : ((s[s.size - 1].toNat : Int) == 45) = false := by rw [hx1]; exact decide_eq_false q1
      have hr := HF.out
      rw [HFB.out, decide_eq_true q0, decide_eq_true q1, Bool.true_and, Bool.true_and] at hr
      have HR := Lib.hid hr
      clear hx0 hx1 q0 q1 hr HF HFB
      by_cases h4 : 4 ≤ s.size
      · have h4I : (s.size : Int) ≥ 4 := by omega
        have hl2 : 2 < s.size := by omega
        have hl3 : 3 < s.size := by omega
        have hl2I : (2 : Int) < (s.size : Int) := by omega
        have hl3I : (3 : Int) < (s.size : Int) := by omega
        have hx2 := u8_beq45 (byteAt s 2)
        have hx3 := u8_beq45 (byteAt s 3)
        rw [← str_ix hl2] at hx2
        rw [← str_ix hl3] at hx3
        have hcd : codedB s = decide (4 ≤ s.size ∧ byteAt s 2 = 45 ∧ byteAt s 3 = 45) := rfl
        rw [← str_ix hl2, ← str_ix hl3] at hcd
        by_cases q2 : s[2] = 45
        · have n2 : ((s[2].toNat : Int) == 45) = true := by rw [hx2]; exact decide_eq_true q2
          by_cases q3 : s[3] = 45
          · have n3 : ((s[3].toNat : Int) == 45) = true := by rw [hx3]; exact decide_eq_true q3
            rw [decide_eq_true ⟨h4, q2, q3⟩] at hcd
            rw [hcd] at HR
            clear hcd hx2 hx3 q2 q3
            go_wp2_with fail
            refine (cD.out _).mono ?_
            rintro e w6 ⟨hb6, h6⟩
            rcases h6 with ⟨hn, v, rfl⟩ | ⟨l, v, hn, rfl, _⟩
            · have hr := HR.out
              rw [hn, if_neg (by decide)] at hr
              have HR2 := Lib.hid hr
              clear hr hn
              go_wp2_with fail
              go_ret2
              exact ⟨hb6, by rw [HR2.out]; rfl⟩
            · have hr := HR.out
              rw [hn, if_pos (by rfl)] at hr
              have HR2 := Lib.hid hr
              clear hr hn
              go_wp2_with fail
              go_ret2
              exact ⟨hb6, by rw [HR2.out]; rfl⟩
          · have n3 : ((s[3].toNat : Int) == 45) = false := by rw [hx3]; exact decide_eq_false q3
            rw [decide_eq_false (fun h => q3 h.2.2)] at hcd
            have hr := HR.out
            rw [hcd, if_pos (by rfl)] at hr
            have HR2 := Lib.hid hr
            clear hcd hx2 hx3 q2 q3 hr
            go_wp2_with fail
            go_ret2
            exact ⟨Below.refl _ _, by rw [HR2.out]; rfl⟩
        · have n2 : ((s[2].toNat : Int) == 45) = false := by rw [hx2]; exact decide_eq_false q2
          rw [decide_eq_false (fun h => q2 h.2.1)] at hcd
          have hr := HR.out
          rw [hcd, if_pos (by rfl)] at hr
          have HR2 := Lib.hid hr
          clear hcd hx2 hx3 q2 hr
          go_wp2_with fail
          go_ret2
          exact ⟨Below.refl _ _, by rw [HR2.out]; rfl⟩
      · have h4I : ¬ (s.size : Int) ≥ 4 := by omega
        have hcd : codedB s = false := decide_eq_false (fun h => h4 h.1)
        have hr := HR.out
        rw [hcd, if_pos (by rfl)] at hr
        have HR2 := Lib.hid hr
        clear hcd hr
        go_wp2_with fail
        go_ret2
        exact ⟨Below.refl _ _, by rw [HR2.out]; rfl⟩
end Go.Proofs.YtbonnmkkacplgaaGreatDoor

/- The reference's Next of chapter 01. -/
namespace Go.Proofs.YtbonnmkkacplgaaGreatDoor
open Go.RowKit

theorem bytes_cut (w : World) (b off i k cap : Nat) (s : ByteArray) (hi : i + k ≤ s.size) (hp : BytesIn w b off s) :
    (convert 32 9 (.slice (some ⟨b, off + i, none⟩) k cap)).run Tryz.prog w = .ok (.string (s.extract i (i + k))) w := by
  have hl : s.data.toList.length = s.size := rfl
  have h := run_convert_bytes_back (P := Tryz.prog) w 32 9 5 ⟨b, off + i, none⟩ cap ((s.data.toList.drop i).take k) Tryz.underlying32 Tryz.underlying5 Tryz.underlying9 (fun j hj => by
    have hj' : j < k := by simp [hl] at hj; omega
    have := hp (i + j) (by omega)
    rw [Addr.add_lit, Nat.add_assoc, this]
    have hlt : i + j < s.data.toList.length := by omega
    simp only [byteAt, List.getD, List.getElem_take, List.getElem_drop]
    rw [List.getElem?_eq_getElem hlt]; rfl)
  have hlen : ((s.data.toList.drop i).take k).length = k := by simp [hl]; omega
  rw [hlen] at h
  rw [h, Lib.extract_eq, Nat.add_sub_cancel_left]

def SNext (b off : Nat) (s : ByteArray) (W : World) : Prop := BytesIn W b off s

theorem SNext.put {b off : Nat} {s : ByteArray} {W w2 : World} (h : SNext b off s W) (hb : b < W.heap.size) (h2 : Below W.drew.heap.size W.drew w2) : SNext b off s w2 :=
  BytesIn.below (B := W.heap.size) (w := W) h (((Below.refl W.heap.size W).drew).trans h2) hb

set_option maxHeartbeats 3200000 in
set_option maxRecDepth 100000 in
theorem ref_Next (s : ByteArray) (i b off cap : Nat) (w : World) (hi : i < s.size) (hs : s.size ≤ 16777216) (hc : s.size ≤ cap) (hcap : cap ≤ 9223372036854775807) (hbs : b < w.heap.size) (hp : BytesIn w b off s) :
    Calls Tryz.prog 69 #[.slice (some ⟨b, off, none⟩) s.size cap, .int .i64 (i : Int)] w fun e w' => e = .returned (.tuple #[.int .i64 (refC s i : Int), .int .i64 (refN s i : Int)]) ∧ Below w.heap.size w w' := by
  go_enter Tryz.func69, Tryz.ntmps69
  go_wp2_with fail
  go_loopw [6] (fun k wr => ∃ j : Nat, 1 ≤ j ∧ j ≤ 5 ∧ k = .int .i64 j ∧ (∀ m, 1 ≤ m → m < j → i + m ≤ s.size → ¬ hitB s i m) ∧ Below w.heap.size w wr)
    (fun k _ => 6 - (intOf k).toNat)
  case atStart => exact ⟨1, by omega, by omega, rfl, fun m _ _ => by omega, Below.refl _ _⟩
  case round =>
    obtain ⟨k, hk1, hk5, rfl, hall, hbr⟩ := hrel
    have HA := Lib.hid hall
    clear hall
    by_cases hk4 : k ≤ 4 ∧ i + k ≤ s.size
    · obtain ⟨hk4, hik⟩ := hk4
      have hcx := bytes_cut wr b off i k (cap - i) s hik (hp.below hbr hbs)
      have t1 : (k : Int) ≤ 4 := by omega
      have t2 : (i : Int) + (k : Int) ≤ (s.size : Int) := by omega
      go_wp2_with fail
      refine (ref_guess s i k b off cap _ hk1 hk4 hik (by omega) (hp.below hbr hbs)).mono ?_
      rintro e w2 ⟨rfl, rfl⟩
      generalize hg : guessB s i k = g at *
      have HG := Lib.hid hg
      clear hg
      by_cases hr : rightB g = true
      · have cR : ∀ W : World, Calls Tryz.prog 18 #[.int .i64 g] W fun e w' => e = .returned (.bool true) ∧ W = w' := fun W => (ref_Right g W).mono fun _ _ ⟨a, b⟩ => ⟨by rw [a, hr], b⟩
        have CR := Lib.hid cR
        clear cR
        have hrz := (rightB_iff g).1 hr
        unfold rightZ at hrz
        obtain ⟨hz0, hz1, _⟩ := hrz
        obtain ⟨n, rfl⟩ := Int.eq_ofNat_of_zero_le hz0
        have cP : ∀ W : World, Calls Tryz.prog 19 #[.int .i64 (n : Int)] W fun e w' =>
            ∃ g, e = .returned (.slice (some ⟨g, 0, none⟩) (putL n).length (putL n).length) ∧ Below W.heap.size W w' ∧ (convert 32 9 (.slice (some ⟨g, 0, none⟩) (putL n).length (putL n).length)).run Tryz.prog w' = .ok (.string ⟨(putL n).toArray⟩) w' :=
          fun W => (ref_Put n (by omega) W).mono fun e w' ⟨h1, h2, h3, _⟩ => ⟨_, h1, h2, run_back w' _ _ 5 _ _ _ Tryz.underlying32 Tryz.underlying5 Tryz.underlying9 h3⟩
        have CP := Lib.hid cP
        clear cP
        have HC : ∀ W : World, BytesIn W b off s → (convert 32 9 (.slice (some ⟨b, off + i, none⟩) k (cap - i))).run Tryz.prog W = .ok (.string (s.extract i (i + k))) W := fun W hW => bytes_cut W b off i k (cap - i) s hik hW
        have HD := Lib.hid HC
        clear HC
        have hpr := hp.below hbr hbs
        have hbsr : b < wr.heap.size := Nat.lt_of_lt_of_le hbs hbr.size
        go_upto_region 5 with (fail)
        generalize hps : (⟨(putL n).toArray⟩ : ByteArray) = ps at *
        generalize hxs : s.extract i (i + k) = xs at *
        generalize (putL n).length = ln at *
        have HP := Lib.hid (And.intro hps hxs)
        clear hps hxs
        have z1 : IntKind.i64.wrap ((i : Int) + (k : Int)) = (i : Int) + (k : Int) := IntWalk.i64_in _ (by omega)
        have z2 : (0 : Int) ≤ (i : Int) + (k : Int) := by omega
        have z3 : ((i : Int) + (k : Int)).toNat = i + k := by omega
        have z4 : i + k - i = k := by omega
        have z5 : (0 : Int) ≤ (i : Int) := by omega
        have z6 : (i : Int) ≤ (i : Int) + (k : Int) := by omega
        have z7 : (i : Int) + (k : Int) ≤ (cap : Int) := by omega
        have z8 : ¬ cap = i := by omega
        go_cut [38] (fun c wx => c = .bool (ps.toList == xs.toList) ∧ Below wr.heap.size wr wx)
        case first =>
          have hS0 : SNext b off s wr := hpr
          have hS1 : SNext b off s wr.drew := hpr
          have hcd := HD.out wr.drew hpr
          go_region_held (SNext b off s) (first | exact hp2 | exact hS1)
            (first
            | (go_at_call 18; refine (CR.out _).mono ?_; rintro e w' ⟨rfl, rfl⟩)
            | (go_at_call 19; refine (CP.out _).mono ?_; rintro e w2 ⟨g, rfl, hb2, hB2⟩; have hp2 := hS0.put hbsr hb2; have hc2 := HD.out w2 hp2; have hbw2 := ((Below.refl wr.heap.size wr).drew).trans hb2; clear hb2; dsimp only))
          all_goals clear z1 z2 z3 z4 z5 z6 z7 z8
          all_goals (go_wp2_with fail; go_meet; exact ⟨rfl, hbw2⟩)
        case rest =>
          obtain ⟨rfl, hbx⟩ := hcut
          have hbx := Bt hbr hbx
          clear z1 z2 z3 z4 z5 z6 z7 z8 CP CR HD hcx hpr hbsr
          by_cases hh : ps = xs
          · have hl : (ps.toList == xs.toList) = true := by rw [hh]; exact beq_self_eq_true _
            have hd := hitB_dec (s := s) (i := i) hk1 hk4 hik ⟨by rw [HG.out]; exact hr, by rw [HG.out, Int.toNat_natCast, HP.out.1, HP.out.2, hh]⟩
            rw [HG.out, Int.toNat_natCast] at hd
            have HD := Lib.hid (ref_yes hd)
            clear hd hr
            rw [hl]
            clear hl hh HP HG hp hbs t1 t2 HA
            go_wp2_with fail
            go_ret2
            exact ⟨ret_next HD.out, hbx⟩
          · have hl : (ps.toList == xs.toList) = false := by
              rw [beq_eq_false_iff_ne]
              intro e
              rw [ByteArray.toList_eq, ByteArray.toList_eq] at e
              exact hh (ByteArray.ext (Array.ext' e))
            have hno : ¬ hitB s i k := fun ⟨_, e⟩ => hh (by rw [HG.out, Int.toNat_natCast, HP.out.1, HP.out.2] at e; exact e)
            have hall : ∀ m, 1 ≤ m → m < k + 1 → i + m ≤ s.size → ¬ hitB s i m := fun m h1 h2 h3 => by
              by_cases hmk : m = k
              · rw [hmk]; exact hno
              · exact HA.out m h1 (by omega) h3
            have HALL := Lib.hid hall
            clear hall hno hr hh
            rw [hl]
            clear hl
            go_wp2_with fail
            go_roundw
            case rel => exact ⟨k + 1, by omega, by omega, by go_num, HALL.out, hbx⟩
            case measure => simp [intOf]; omega
      · have hr : rightB g = false := by simpa using hr
        have cR : ∀ W : World, Calls Tryz.prog 18 #[.int .i64 g] W fun e w' => e = .returned (.bool false) ∧ W = w' := fun W => (ref_Right g W).mono fun _ _ ⟨a, b⟩ => ⟨by rw [a, hr], b⟩
        have hno : ¬ hitB s i k := fun ⟨e, _⟩ => by rw [HG.out, hr] at e; cases e
        have hall : ∀ m, 1 ≤ m → m < k + 1 → i + m ≤ s.size → ¬ hitB s i m := fun m h1 h2 h3 => by
          by_cases hmk : m = k
          · rw [hmk]; exact hno
          · exact HA.out m h1 (by omega) h3
        have HALL := Lib.hid hall
        have CR := Lib.hid cR
        clear hall hno hr cR hcx
        go_upto_region 5 with (fail)
        go_cut [38] (fun c wx => c = .bool false ∧ Below wr.heap.size wr wx)
        case first =>
          go_quiet ((go_at_call 18; exact Calls.quiet_of_same ((CR.out _).mono fun _ _ ⟨a, b⟩ => ⟨a, b.symm⟩)))
          go_wp2_with fail
          go_meet
          exact ⟨rfl, below_drewN (Below.refl _ _) _⟩
        case rest =>
          obtain ⟨rfl, hbx⟩ := hcut
          have hbx := Bt hbr hbx
          go_wp2_with fail
          go_roundw
          case rel => exact ⟨k + 1, by omega, by omega, by go_num, HALL.out, hbx⟩
          case measure => simp [intOf]; omega
    · have hno : okB s i = false := no_hit hi fun m h1 h2 h3 => HA.out m h1 (by omega) h3
      have HN := Lib.hid (ref_no hno)
      clear hno
      have hk' : 5 ≤ k ∨ (k ≤ 4 ∧ s.size < i + k) := by omega
      clear hk4
      rcases hk' with h | ⟨h, h'⟩
      all_goals
        go_wp2_with fail
        go_ret2
        exact ⟨ret_next0 HN.out, hbr⟩
end Go.Proofs.YtbonnmkkacplgaaGreatDoor

/- The reference's Text and Chars of chapter 01. -/
namespace Go.Proofs.YtbonnmkkacplgaaGreatDoor
open Go.RowKit

theorem put_sl {w : World} {g d : Nat} (h : BytesAt w g (putL d)) : BytesSl w (.slice (some ⟨g, 0, none⟩) (putL d).length (putL d).length) ⟨(putL d).toArray⟩ := by
  have h5 : (⟨(putL d).toArray⟩ : ByteArray).size = (putL d).length := by show (putL d).toArray.size = _; simp
  have hl := putN_len d
  refine .inr ⟨g, 0, _, by rw [h5], by rw [h5]; exact Nat.le_refl _, by rw [putL_len]; unfold maxLen; omega, h.lt, ?_⟩
  exact BytesAt.isIn (s := ⟨(putL d).toArray⟩) h
theorem putL_le (d : Nat) : (putL d).length ≤ 4 := by rw [putL_len]; exact (putN_len d).2

def RTextPost (l : List Int) (w : World) (e : Ending) (w' : World) : Prop :=
  Below w.heap.size w w' ∧ ((rightLen l = l.length ∧ ∃ v, e = .returned (.tuple #[v, .int .i64 (-1)]) ∧ OwnB w' w.heap.size v (putAll (nats l))) ∨
    (rightLen l < l.length ∧ ∃ a, e = .returned (.tuple #[.slice a 0 0, .int .i64 (rightLen l : Int)])))

set_option maxHeartbeats 1600000 in
theorem ref_Text (x : Value) (l : List Int) (w : World) (hl : l.length ≤ 16777216) (hx : IntsSl w x l) : Calls Tryz.prog 52 #[x] w (RTextPost l w) := by
  rcases hx with ⟨rfl, a, cap, rfl⟩ | ⟨b, off, cap, rfl, hc, hcm, hbs, hp⟩
  · go_enter Tryz.func52, Tryz.ntmps52
    go_wp2_with fail
    refine wp_loop_rounds 1 ?_
    rw [rounds_succ]
    go_wp2_with fail
    go_ret2
    exact ⟨(Below.refl _ _).alloc (Nat.le_refl _) _, .inl ⟨rfl, _, rfl, OwnB.lit w [] #[] 0 rfl rfl (Nat.le_refl _) (by simp)⟩⟩
  · unfold maxLen at hcm
    go_enter Tryz.func52, Tryz.ntmps52
    go_wp2_with fail
    have hlen := putAll_len
    have HL := Lib.hid hlen
    clear hlen
    go_loopw [4, 5] (fun v a wr => ∃ i : Nat, i ≤ l.length ∧ a = .int .i64 i ∧ i ≤ rightLen l ∧ OwnB wr w.heap.size v (putAll (nats (l.take i))) ∧ Below w.heap.size w wr)
      (fun _ a _ => l.length - (intOf a).toNat)
    case atStart => exact ⟨0, Nat.zero_le _, rfl, Nat.zero_le _, OwnB.lit w [] #[] 0 rfl rfl (Nat.le_refl _) (by simp), (Below.refl _ _).alloc (Nat.le_refl _) _⟩
    case round =>
      obtain ⟨i, hil, rfl, hir, hown, hbr⟩ := hrel
      by_cases hlt : i < l.length
      · have hcell : wr.cell? ⟨b, off + i, none⟩ = some (.int .i64 (l.getD i 0)) := (hbr.cell (p := ⟨b, off + i, none⟩) hbs).trans (hp i hlt)
        have hst := rightLen_step l i hir hlt
        have htk := nats_take_succ l i hlt
        have hle : (nats (l.take i)).length ≤ 16777216 := by rw [nats_len, List.length_take]; omega
        generalize l.getD i 0 = c at *
        generalize nats (l.take i) = done at *
        have HT := Lib.hid htk
        clear htk
        by_cases hr : rightB c = true
        · have hst1 := hst.1 hr
          obtain ⟨d, rfl, hd, hd2⟩ := right_nat hr
          have cR := Lib.hid (fun W => hr ▸ ref_Right (d : Int) W)
          have HST := Lib.hid hst1
          clear hr hst hst1 hir
          go_wp2_with fail
          refine (cR.out _).mono ?_
          rintro e w1 ⟨rfl, rfl⟩
          go_wp2_with fail
          refine (ref_Put d (by omega) _).mono ?_
          rintro e w2 ⟨rfl, hb2, hB2, _⟩
          have hy := put_sl hB2
          have hl4 := putL_le d
          have hown2 := hown.below hb2
          have hbr2 := Bt hbr hb2
          clear hown hbr hB2
          go_wp2_with (at_builtin; refine wpList_app_bytes rfl _ _ rfl w.heap.size _ _ rfl hown2 _ ⟨(putL d).toArray⟩ rfl hy (by have := HL.out done; have h5 : (⟨(putL d).toArray⟩ : ByteArray).size = (putL d).length := by { show (putL d).toArray.size = _; simp }; omega) hbr2.size ?_)
          intro v3 w3 hown3 hgr
          have hb3 := hown2.under hbr2 (Nat.le_refl _) hgr
          have ht : putAll done ++ (⟨(putL d).toArray⟩ : ByteArray).data.toList = putAll (nats (l.take (i + 1))) := by rw [HT.out, putAll_app, putAll_one, Int.toNat_natCast]
          rw [ht] at hown3
          clear ht hgr hown2 hy hbr2
          go_wp2_with fail
          go_roundw
          case rel => exact ⟨i + 1, by omega, by go_num, HST.out, hown3, hb3⟩
          case measure => simp [intOf]; omega
        · have hr : rightB c = false := by simpa using hr
          have hst1 := hst.2 hr
          have cR := Lib.hid (fun W => hr ▸ ref_Right c W)
          have HST := Lib.hid hst1
          clear hr hst hst1 hir
          go_wp2_with fail
          refine (cR.out _).mono ?_
          rintro e w1 ⟨rfl, rfl⟩
          go_wp2_with fail
          go_ret2
          exact ⟨hbr.alloc hbr.size _, .inr ⟨by rw [HST.out]; exact hlt, _, by rw [HST.out]; rfl⟩⟩
      · obtain rfl : i = l.length := by omega
        have hrl : rightLen l = l.length := Nat.le_antisymm (rightLen_le l) hir
        have HR := Lib.hid hrl
        rw [List.take_length] at hown
        clear hrl hir
        go_wp2_with fail
        go_ret2
        exact ⟨hbr, .inl ⟨HR.out, _, rfl, hown⟩⟩

def RCharsPost (s : ByteArray) (w : World) (e : Ending) (w' : World) : Prop :=
  Below w.heap.size w w' ∧ (((chrs s).2 = none ∧ ∃ v, e = .returned (.tuple #[v, .int .i64 (-1)]) ∧ w'.ownsRow w.heap.size 3 1 v (chrs s).1.length ((chrs s).1.map intV)) ∨
    (∃ i : Nat, (chrs s).2 = some i ∧ ∃ a, e = .returned (.tuple #[.slice a 0 0, .int .i64 (i : Int)])))

theorem own_empty (w : World) (base : Nat) (hb : base ≤ w.heap.size) : (w.alloc (.cells #[] 3)).ownsRow base 3 1 (.slice (some ⟨w.heap.size, 0, none⟩) 0 0) 0 (([] : List Nat).map intV) :=
  World.ownsRow_lit w #[] 0 hb (Nat.zero_le _) rfl

set_option maxHeartbeats 1600000 in
set_option maxRecDepth 100000 in
theorem ref_Chars (v : Value) (s : ByteArray) (w : World) (hs : s.size ≤ 16777216) (hv : BytesSl w v s) :
    Calls Tryz.prog 37 #[v] w (RCharsPost s w) := by
  rcases hv with ⟨h0, a, cap, rfl⟩ | ⟨b, off, cap, rfl, hc, hcm, hbs, hp⟩
  · have hz := Lib.hid ((Reach.zero s).done (by omega))
    clear h0
    go_enter Tryz.func37, Tryz.ntmps37
    go_wp2_with fail
    refine wp_loop_rounds 1 ?_
    rw [rounds_succ]
    go_wp2_with fail
    go_ret2
    exact ⟨(Below.refl _ _).alloc (Nat.le_refl _) _, .inl ⟨by rw [hz.out], _, rfl, by rw [hz.out]; exact own_empty w _ (Nat.le_refl _)⟩⟩
  · obtain ⟨i0, hi, hz0, hz1, hz2⟩ := info_parts info_int
    unfold maxLen at hcm
    go_enter Tryz.func37, Tryz.ntmps37
    go_wp2_with fail
    go_loopw [4, 5] (fun v a wr => ∃ (i : Nat) (l : List Nat), i ≤ s.size ∧ a = .int .i64 i ∧ Reach s l i ∧ wr.ownsRow w.heap.size 3 1 v l.length (l.map intV) ∧ Below w.heap.size w wr)
      (fun _ a _ => s.size - (intOf a).toNat)
    case atStart => exact ⟨0, [], Nat.zero_le _, rfl, Reach.zero s, own_empty w _ (Nat.le_refl _), (Below.refl _ _).alloc (Nat.le_refl _) _⟩
    case round =>
      obtain ⟨i, l, hil, rfl, hr, hown, hbr⟩ := hrel
      have hll : l.length ≤ i := by obtain ⟨_, _, h, _⟩ := hr; exact h
      have HR := Lib.hid hr
      clear hr
      by_cases hlt : i < s.size
      · obtain ⟨hd1, hd2, hd3, hd4⟩ := decB_bounds s i hlt
        clear hd4
        go_wp2_with fail
        refine (ref_Next s i b off cap _ hlt hs hc hcm (Nat.lt_of_lt_of_le hbs hbr.size) (hp.below hbr hbs)).mono ?_
        rintro e w2 ⟨rfl, hb2⟩
        have hown2 := ownsRow_below hown hb2
        have hbr2 := Bt hbr hb2
        clear hown hbr hb2
        by_cases hok : okB s i = true
        · have hst := HR.out.step hlt hok
          have hrr : (decB s i).1 = refC s i ∧ (decB s i).2 = refN s i := ref_yes ⟨hok, rfl⟩
          rw [← hrr.1, ← hrr.2]
          clear hrr
          generalize (decB s i).1 = c at *
          generalize (decB s i).2 = n at *
          have HST := Lib.hid hst
          have e0 : ((n : Int) == 0) = false := by rw [beq_eq_false_iff_ne]; omega
          clear hst hok
          go_wp2_with (at_builtin; refine wpList_append_own _ rfl _ _ 46 rfl w.heap.size 3 i0 (.int .i64 0) 1 8 Tryz.underlying46 hi hz0 hz1 hz2 rfl (by decide) _ _ _ rfl (hown2.alloc _) ⟨w2.heap.size, 0, none⟩ 1 1 [intV c] rfl rfl ?c1 ?c2 ?c3 ?c4 ?c5 ?_)
          case c1 =>
            intro j u hj
            match j, hj with
            | 0, hj => simp at hj; subst hj; simp [Addr.add, intV]
          case c2 => intro u hu; simp at hu; subst hu; rfl
          case c3 => unfold maxLen; omega
          case c4 => omega
          case c5 => have := hbr2.size; simp; omega
          intro v1 w3 hown3 hg3 _
          have hbr3 := below_app hbr2 hown2 (Nat.le_refl _) hg3
          clear hg3 hown2 hbr2
          go_wp2_with fail
          go_roundw
          case rel => exact ⟨i + n, l ++ [c], by omega, by go_num, HST.out, by simpa using hown3, hbr3⟩
          case measure => simp [intOf]; omega
        · have hok : okB s i = false := by simpa using hok
          have hb := Lib.hid (HR.out.bad hlt hok)
          have hrr := ref_no hok
          rw [← hrr.1, ← hrr.2]
          clear hrr hok
          go_wp2_with fail
          go_ret2
          exact ⟨hbr2.alloc hbr2.size _, .inr ⟨i, by rw [hb.out], _, rfl⟩⟩
      · have hb := Lib.hid (HR.out.done hlt)
        obtain rfl : i = s.size := by omega
        go_wp2_with fail
        go_ret2
        exact ⟨hbr, .inl ⟨by rw [hb.out], _, rfl, by rw [hb.out]; exact hown⟩⟩
end Go.Proofs.YtbonnmkkacplgaaGreatDoor
