/- subst.pieces: the walk. -/
import Derived.Test.YtipenfeplampeaaDoorSubstVarsM14
import Derived.Deep.DeepCutAuto
import Derived.Deep.DeepMust
import Derived.Test.YtipenfeplampeaaDoorSubstVarsM12
import Derived.Test.YtipenfeplampeaaDoorSubstVarsM8
import Derived.Test.YtipenfeplampeaaDoorSubstVarsM6
import Derived.Test.YtipenfeplampeaaDoorSubstVarsM9

namespace Go.Proofs.YtipenfeplampeaaDoor
open Go.RowKit

theorem cut_room {c : UInt8} {s : ByteArray} (h : cutH c s = true) : (cutN c s).size + 1 ≤ s.size := by
  obtain ⟨i, _, _, _, h4, h5⟩ := cut_lim c s
  rcases h5 with ⟨_, _, h6⟩ | ⟨h6, _⟩
  · rw [h] at h6; cases h6
  · omega
set_option maxHeartbeats 6400000 in
set_option maxRecDepth 100000 in
theorem sub_pieces (p : ByteArray) (w : World) (hm : MaxAt w) (hp : p.size ≤ 16777216) :
    Calls Tryd.prog 29 #[.string p] w fun e w' => ∃ v, e = .returned (.tuple #[v, .int .i64 (pcs p).2]) ∧ OwnPc w' w.heap.size v (pcs p).1 ∧ Below w.heap.size w w' := by
  have HM := Lib.hid hm
  clear hm
  go_enter Tryd.func29, Tryd.ntmps29
  go_wp2_with fail
  go_loopw [2, 4] (fun v x wr => ∃ (k : Nat) (acc : List PcS), x = .int .i64 k ∧ OwnPc wr w.heap.size v acc ∧ PcSt p acc k ∧ Below w.heap.size w wr) (fun _ x _ => p.size - (intOf x).toNat)
  case atStart => exact ⟨0, [], rfl, OwnPc.nil _ _, PcSt.zero p, Below.refl _ _⟩
  case round =>
    obtain ⟨k, acc, rfl, hown, hst, hbr⟩ := hrel
    have hkle := hst.1
    have hacc := hst.2.1
    by_cases hlt : k < p.size
    · have hkI : (k : Int) < (p.size : Int) := by omega
      have hkI2 : (k : Int) ≤ (p.size : Int) := by omega
      have hes := extract_tail_size p k hkle
      have hidx := idx_pair (p.extract k p.size).data.toList
      have hlen : (p.extract k p.size).data.toList.length = (p.extract k p.size).size := rfl
      rw [hlen, hes] at hidx
      obtain ⟨mx, hmx⟩ := HM.out.below hbr
      have hC := fun W hm => Tryd.strings_Index (p.extract k p.size) ⟨#[36, 40]⟩ mx W (by omega) hm
      rw [show (⟨#[36, 40]⟩ : ByteArray).data.toList = [36, 40] from rfl] at hC
      have HC := Lib.hid hC
      have hnone := fun h => hst.none hlt h
      have hbad := fun n h h2 => hst.bad (n := n) hlt h h2
      have hstep := fun n h h2 h3 => hst.step (n := n) hlt h h2 h3
      have HNONE := Lib.hid hnone
      have HBAD := Lib.hid hbad
      have HSTEP := Lib.hid hstep
      clear hC hnone hbad hstep hst hlen
      have hws := hbr.size
      go_wp2_with fail
      refine (HC.out _ hmx).mono ?_
      rintro e w2 ⟨rfl, rfl⟩
      rcases hidx with hi | ⟨n, hi, hn⟩
      · rw [hi]
        have HR := Lib.hid (HNONE.out hi)
        have ho2 := hown.below ((Below.refl w2.heap.size w2).alloc (Nat.le_refl _) (.cells #[.string (p.extract k p.size), .bool false, .int .i64 (k : Int)] 73))
        have hbr2 := hbr.alloc hbr.size (.cells #[.string (p.extract k p.size), .bool false, .int .i64 (k : Int)] 73)
        clear hi HBAD HSTEP HNONE HC hmx
        go_wp2_with (at_builtin; refine wpList_app_piece rfl (.tmp 19) (.tmp 25) rfl w.heap.size _ _ rfl ho2 w2.heap.size 1 ⟨p.extract k p.size, false, k⟩ rfl (heap_alloc_new w2 _) (by omega) (by simp; omega) ?_)
        intro v4 w4 hown4 hg4
        have hbr4 := ho2.under hbr2 (Nat.le_refl _) hg4
        clear ho2 hbr2 hown hbr hg4
        go_wp2_with fail
        go_ret2
        rw [HR.out]
        exact ⟨v4, rfl, hown4, hbr4⟩
      · rw [hi]
        have HB := Lib.hid (HBAD.out n hi)
        have HS := Lib.hid (HSTEP.out n hi)
        have hnI : ¬ (n : Int) < 0 := by omega
        clear hi HBAD HSTEP HNONE HC hmx
        have z1 : IntKind.i64.wrap ((k : Int) + (n : Int)) = (k : Int) + (n : Int) := IntWalk.i64_in _ (by omega)
        have y1 : (0 : Int) ≤ (k : Int) + (n : Int) := by omega
        have y2 : (k : Int) ≤ (k : Int) + (n : Int) := by omega
        have y3 : (k : Int) + (n : Int) ≤ (p.size : Int) := by omega
        have y4 : ((k : Int) + (n : Int)).toNat = k + n := by omega
        go_upto_if 28 with (fail)
        go_cut [2, 4] (fun v x wx => x = .int .i64 ((k + n : Nat) : Int) ∧ OwnPc wx w.heap.size v (acc ++ preP p k n) ∧ Below w.heap.size w wx)
        case first =>
          clear HB HS
          by_cases h0 : 0 < n
          · have h0I : (0 : Int) < (n : Int) := by omega
            have HP := Lib.hid (show preP p k n = [⟨p.extract k (k + n), false, k⟩] by unfold preP; rw [if_pos h0])
            have ho2 := hown.below ((Below.refl w2.heap.size w2).alloc (Nat.le_refl _) (.cells #[.string (p.extract k (k + n)), .bool false, .int .i64 (k : Int)] 73))
            have hbr2 := hbr.alloc hbr.size (.cells #[.string (p.extract k (k + n)), .bool false, .int .i64 (k : Int)] 73)
            clear h0
            go_wp2_with (at_builtin; refine wpList_app_piece rfl (.tmp 29) (.tmp 38) rfl w.heap.size _ _ rfl ho2 w2.heap.size 1 ⟨p.extract k (k + n), false, k⟩ rfl (heap_alloc_new w2 _) (by omega) (by simp; omega) ?_)
            intro v4 w4 hown4 hg4
            have hbr4 := ho2.under hbr2 (Nat.le_refl _) hg4
            clear ho2 hbr2 hown hbr hg4
            go_wp2_with fail
            go_meet
            exact ⟨by go_num, by rw [HP.out]; exact hown4, hbr4⟩
          · obtain rfl : n = 0 := by omega
            have HP := Lib.hid (show preP p k 0 = [] by unfold preP; rw [if_neg h0])
            clear h0
            go_wp2_with fail
            go_meet
            exact ⟨by go_num, by rw [HP.out, List.append_nil]; exact hown, hbr⟩
        case rest =>
          obtain ⟨rfl, hown3, hbr3⟩ := hcut
          have hacc2 : (acc ++ preP p k n).length ≤ 16777217 * 2 := by
            have : (preP p k n).length ≤ 1 := by unfold preP; split <;> simp
            rw [List.length_append]; omega
          clear hown hbr z1 y1 y2 y3 y4 hkI hkI2 hacc hes hkle hnI hws
          generalize acc ++ preP p k n = acc2 at *
          have hq2 : k + n + 2 ≤ p.size := by omega
          have hkq : k ≤ k + n := by omega
          generalize k + n = q at *
          have x1 : IntKind.i64.wrap ((q : Int) + 2) = (q : Int) + 2 := IntWalk.i64_in _ (by omega)
          have x2 : (0 : Int) ≤ (q : Int) + 2 := by omega
          have x3 : (q : Int) + 2 ≤ (p.size : Int) := by omega
          have x4 : ((q : Int) + 2).toNat = q + 2 := by omega
          have hsz2 := extract_tail_size p (q + 2) hq2
          have hCC := Lib.hid (fun W => strings_Cut1 (p.extract (q + 2) p.size) 41 W (by omega))
          have hroom : cutH 41 (p.extract (q + 2) p.size) = true → q + 2 + (cutN 41 (p.extract (q + 2) p.size)).size + 1 ≤ p.size := fun h => by have := cut_room h; omega
          have HRM := Lib.hid hroom
          clear hroom hsz2
          generalize cutN 41 (p.extract (q + 2) p.size) = nm at *
          generalize cutV 41 (p.extract (q + 2) p.size) = rv at *
          generalize cutH 41 (p.extract (q + 2) p.size) = hh at *
          go_wp2_with fail
          refine (hCC.out _).mono ?_
          rintro e w5 ⟨rfl, qd, rfl⟩
          have hbd : Below wc.heap.size wc (wc.drewN qd) := below_drewN (Below.refl _ _) qd
          have hown5 := hown3.below hbd
          have hbr5 := Bt hbr3 hbd
          clear hown3 hbr3 hbd hCC
          generalize wc.drewN qd = w5 at *
          cases hh with
          | false =>
            have HR := Lib.hid (HB.out rfl)
            clear HB HS
            go_wp2_with fail
            go_ret2
            rw [HR.out]
            exact ⟨_, rfl, hown5, hbr5⟩
          | true =>
            have hle := HRM.out rfl
            have HR := Lib.hid (HS.out rfl hle)
            clear HB HS HRM
            have ho2 := hown5.below ((Below.refl w5.heap.size w5).alloc (Nat.le_refl _) (.cells #[.string nm, .bool true, .int .i64 (q : Int)] 73))
            have hbr2 := hbr5.alloc hbr5.size (.cells #[.string nm, .bool true, .int .i64 (q : Int)] 73)
            have hws5 := hbr5.size
            have u1 : IntKind.i64.wrap (2 + (nm.size : Int)) = 2 + (nm.size : Int) := IntWalk.i64_in _ (by omega)
            have u2 : IntKind.i64.wrap (2 + (nm.size : Int) + 1) = 2 + (nm.size : Int) + 1 := IntWalk.i64_in _ (by omega)
            have u3 : IntKind.i64.wrap ((q : Int) + (2 + (nm.size : Int) + 1)) = (q : Int) + (2 + (nm.size : Int) + 1) := IntWalk.i64_in _ (by omega)
            go_wp2_with (at_builtin; refine wpList_app_piece rfl (.tmp 56) (.tmp 60) rfl w.heap.size _ _ rfl ho2 w5.heap.size 1 ⟨nm, true, q⟩ rfl (heap_alloc_new w5 _) (by omega) (by simp; omega) ?_)
            intro v4 w4 hown4 hg4
            have hbr4 := ho2.under hbr2 (Nat.le_refl _) hg4
            clear ho2 hbr2 hown5 hbr5 hg4
            go_wp2_with fail
            go_roundw
            case rel => exact ⟨q + 2 + nm.size + 1, _, by go_num, hown4, HR.out, hbr4⟩
            case measure => simp [intOf]; omega
    · have hkI : ¬ (k : Int) < (p.size : Int) := by omega
      have HR := Lib.hid (hst.done hlt)
      clear hst hlt
      go_wp2_with fail
      go_ret2
      rw [HR.out]
      exact ⟨_, rfl, hown, hbr⟩
end Go.Proofs.YtipenfeplampeaaDoor

/- subst.Check. -/
namespace Go.Proofs.YtipenfeplampeaaDoor
open Go.RowKit

/-- What is wrong with a pattern with variables: the error's number, its place. -/
def chkV (p : ByteArray) (vars : List SVar) : Nat × Nat := if okP p = false then chkP p else match missV vars (pcs p).1 with
  | some k => (30, k)
  | none => if (pcs p).2 < 0 then (0, 0) else (10, (pcs p).2.toNat)
def CheckVPost (p : ByteArray) (vars : List SVar) (w : World) (e : Ending) (w' : World) : Prop := Below w.heap.size w w' ∧ ((okV p vars = true ∧ chkV p vars = (0, 0) ∧ e = .returned .nilIface) ∨ (okV p vars = false ∧ (chkV p vars).1 ≠ 0 ∧ ∃ v, e = .returned v ∧ IsFault w' v (chkV p vars).1 (chkV p vars).2))
theorem pcs_len (p : ByteArray) : ∀ f k, k ≤ p.size → (pcF p f k).1.length + 2 * k ≤ 2 * p.size := by
  intro f
  induction f with
  | zero => intro k hk; simp [pcF]; omega
  | succ f ih =>
    intro k hk
    rw [pcF]
    by_cases hlt : k < p.size
    · rw [if_pos hlt]
      have hes := extract_tail_size p k hk
      rcases idx_pair (p.extract k p.size).data.toList with hi | ⟨n, hi, hn⟩
      · rw [hi, if_pos (by decide)]
        show 1 + _ ≤ _
        omega
      · rw [show (p.extract k p.size).data.toList.length = (p.extract k p.size).size from rfl, hes] at hn
        rw [hi, if_neg (by omega), Int.toNat_natCast, pre_int]
        have hpre : (preP p k n).length ≤ 1 := by unfold preP; split <;> simp
        by_cases hc : cutH 41 (p.extract (k + n + 2) p.size) = true
        · rw [if_pos hc]
          have hr := cut_room hc
          rw [extract_tail_size p (k + n + 2) (by omega)] at hr
          have := ih (k + n + 2 + (cutN 41 (p.extract (k + n + 2) p.size)).size + 1) (by omega)
          simp only [List.length_append, List.length_cons]
          omega
        · rw [if_neg hc]
          show (preP p k n).length + _ ≤ _
          omega
    · rw [if_neg hlt]; simp; omega
set_option maxHeartbeats 6400000 in
set_option maxRecDepth 100000 in
theorem sub_Check (p : ByteArray) (av : Option Addr) (vcap : Nat) (vars : List SVar) (w : World) (hU : Utf8Laid w) (hL : ClassLaid w) (hM : MaxAt w) (hv : VarsSl w av vars) (hp : p.size ≤ 16777216) (hvl : vars.length ≤ 16777216) :
    Calls Tryd.prog 28 #[.string p, .slice av vars.length vcap] w (CheckVPost p vars w) := by
  go_enter Tryd.func28, Tryd.ntmps28
  go_wp2_with fail
  refine (glob_Check p _ hU hp).mono ?_
  rintro e w1 ⟨hb1, h⟩
  rcases h with ⟨hok, _, rfl⟩ | ⟨hok, hk0, v, rfl, hfv⟩
  · have hM1 := hM.below hb1
    have hL1 := hL.below hb1
    have hv1 := hv.below hb1
    go_wp2_with fail
    refine (sub_pieces p _ hM1 hp).mono ?_
    rintro e w2 ⟨v2, rfl, hown, hb2⟩
    have hlen := pcs_len p (p.size + 1) 0 (Nat.zero_le _)
    obtain ⟨a3, n3, c3, rfl⟩ := hown.shape3
    obtain ⟨hn3, hc3, hcm, hsl⟩ := hown.sl
    subst hn3
    have hb12 := Bt hb1 hb2
    have hL2 := hL1.below hb2
    have hv2 := hv1.below hb2
    have hokv : okV p vars = ((missV vars (pcs p).1).isNone && decide ((pcs p).2 < 0)) := by unfold okV; rw [hok]; rfl
    have hckv : chkV p vars = match missV vars (pcs p).1 with | some k => (30, k) | none => if (pcs p).2 < 0 then (0, 0) else (10, (pcs p).2.toNat) := by unfold chkV; rw [if_neg (by rw [hok]; decide)]
    rw [show (pcF p (p.size + 1) 0).1 = (pcs p).1 from rfl] at hlen
    have HO := Lib.hid hokv
    have HK := Lib.hid hckv
    unfold maxLen at hcm
    clear hokv hckv hok hown hb1 hb2 hU hL hM hv hM1 hL1 hv1
    generalize (pcs p).1 = qs at *
    generalize (pcs p).2 = bd at *
    go_wp2_with fail
    go_loopw [24] (fun x wr => ∃ i : Nat, i ≤ qs.length ∧ x = .int .i64 i ∧ missV vars (qs.drop i) = missV vars qs ∧ Below w2.heap.size w2 wr) (fun x _ => qs.length - (intOf x).toNat)
    case atStart => exact ⟨0, Nat.zero_le _, rfl, by rw [List.drop_zero], Below.refl _ _⟩
    case round =>
      obtain ⟨i, hil, rfl, hmi, hbr⟩ := hrel
      have hb02 := Bt hb12 hbr
      by_cases hlt : i < qs.length
      · have hiI : (i : Int) < (qs.length : Int) := by omega
        obtain ⟨q, hq⟩ : ∃ q, qs[i]? = some q := ⟨_, List.getElem?_eq_getElem hlt⟩
        obtain ⟨b, ha, hbw, d0, d1, d2⟩ := (hsl.below hbr) i q hq
        have hdr : qs.drop i = q :: qs.drop (i + 1) := by
          obtain ⟨hi, rfl⟩ := List.getElem?_eq_some_iff.1 hq
          exact List.drop_eq_getElem_cons hi
        rw [hdr, missV] at hmi
        obtain ⟨tx, iv, pl⟩ := q
        simp only at d0 d1 d2 hmi
        have hal : Below wr.heap.size wr (wr.alloc (.cells #[.string tx, .bool iv, .int .i64 (pl : Int)] 73)) := (Below.refl _ _).alloc (Nat.le_refl _) _
        have hal2 := Bt hbr hal
        have hal0 := Bt hb12 hal2
        subst ha
        clear hq hdr hsl
        cases iv with
        | false =>
          have HR := Lib.hid (show missV vars (qs.drop (i + 1)) = missV vars qs by rw [← hmi, if_neg (by simp)])
          clear hmi
          go_wp2_with fail
          go_roundw
          case rel => exact ⟨i + 1, by omega, by go_num, HR.out, hal2⟩
          case measure => simp [intOf]; omega
        | true =>
          have hLa := hL2.below hal2
          have hva := hv2.below hal2
          have hq0 := heap_alloc_new wr (.cells #[.string tx, .bool true, .int .i64 (pl : Int)] 73)
          have hMI := Lib.hid hmi
          clear hmi
          go_wp2_with fail
          refine (sub_Own tx _ hLa).mono ?_
          rintro e w4 ⟨rfl, hb4⟩
          have hb24 := Bt hal2 hb4
          cases how : (ownC tx).isSome with
          | true =>
            have HR := Lib.hid (show missV vars (qs.drop (i + 1)) = missV vars qs by
              have := hMI.out
              rw [if_neg (by rintro ⟨_, h, _⟩; cases ho : ownC tx <;> rw [ho] at h how <;> simp at h how)] at this
              exact this)
            clear how hMI hLa hva hq0 hal hal2 hb4
            go_wp2_with fail
            go_roundw
            case rel => exact ⟨i + 1, by omega, by go_num, HR.out, hb24⟩
            case measure => simp [intOf]; omega
          | false =>
            have hq4 := (hb4.block wr.heap.size (by simp)).trans hq0
            have t0 := cell_of_row _ _ 0 _ _ _ hq4
            have t2 := cell_of_row _ _ 2 _ _ _ hq4
            rw [show (#[Value.string tx, .bool true, .int .i64 (pl : Int)] : Array Value)[0]? = some (.string tx) from rfl] at t0
            rw [show (#[Value.string tx, .bool true, .int .i64 (pl : Int)] : Array Value)[2]? = some (.int .i64 (pl : Int)) from rfl] at t2
            have hl4 := lt_of_block hq4
            have hv4 := hva.below hb4
            have HOW := Lib.hid how
            clear how hLa hva hq0 hal hal2 hb4 hq4
            go_wp2_with fail
            refine (sub_values' av vcap vars tx _ hv4 hvl).mono ?_
            rintro e w5 ⟨u, rfl, _, hb5⟩
            have hb25 := Bt hb24 hb5
            have t25 := (hb5.cell (p := ⟨wr.heap.size, 2, none⟩) hl4).trans t2
            cases hfv : (findV vars tx).isSome with
            | true =>
              have HR := Lib.hid (show missV vars (qs.drop (i + 1)) = missV vars qs by
                have := hMI.out
                rw [if_neg (by rintro ⟨_, _, h⟩; cases ho : findV vars tx <;> rw [ho] at h hfv <;> simp at h hfv)] at this
                exact this)
              clear hfv hMI hv4 t0 t2 t25 hb5 HOW
              go_wp2_with fail
              go_roundw
              case rel => exact ⟨i + 1, by omega, by go_num, HR.out, hb25⟩
              case measure => simp [intOf]; omega
            | false =>
              have HR := Lib.hid (show missV vars qs = some pl by
                have := hMI.out
                rw [if_pos ⟨by first | rfl | trivial, by have := HOW.out; cases ho : ownC tx <;> rw [ho] at this <;> simp at this ⊢, by cases ho : findV vars tx <;> rw [ho] at hfv <;> simp at hfv ⊢⟩] at this
                exact this.symm)
              have hb05 := Bt hb12 hb25
              clear hfv hMI hv4 t0 t2 hb5 HOW hb25
              go_wp2_with fail
              refine (api_Fail' 30 (pl : Int) _).mono ?_
              rintro e w6 ⟨v6, rfl, hf6, hb6⟩
              have hb06 := Bt hb05 hb6
              have HF := Lib.hid hf6
              obtain ⟨z, rfl⟩ := hf6.ne_nil
              clear hf6 t25 hb05 hb6
              go_wp2_with fail
              go_ret
              have hK := HK.out
              rw [HR.out] at hK
              exact ⟨hb06, .inr ⟨by rw [HO.out, HR.out]; rfl, by rw [hK]; simp, _, rfl, by rw [hK]; exact HF.out⟩⟩
      · obtain rfl : i = qs.length := by omega
        rw [List.drop_length, missV] at hmi
        have HR := Lib.hid hmi.symm
        clear hmi
        by_cases hbd : 0 ≤ bd
        · go_wp2_with fail
          refine (api_Fail' 10 bd _).mono ?_
          rintro e w6 ⟨v6, rfl, hf6, hb6⟩
          have hb06 := Bt hb02 hb6
          have HF := Lib.hid hf6
          obtain ⟨z, rfl⟩ := hf6.ne_nil
          clear hf6 hb6
          go_wp2_with fail
          go_ret
          have hK := HK.out
          rw [HR.out] at hK
          simp only [if_neg (show ¬ bd < 0 by omega)] at hK
          have hbn : ((bd.toNat : Nat) : Int) = bd := by omega
          exact ⟨hb06, .inr ⟨by rw [HO.out, HR.out, decide_eq_false (by omega)]; rfl, by rw [hK]; simp, _, rfl, by rw [hK]; simp only [hbn]; exact HF.out⟩⟩
        · go_wp2_with fail
          go_ret
          have hK := HK.out
          rw [HR.out] at hK
          simp only [if_pos (show bd < 0 by omega)] at hK
          exact ⟨hb02, .inl ⟨by rw [HO.out, HR.out, decide_eq_true (by omega)]; rfl, hK, rfl⟩⟩
  · have H1 := Lib.hid (show okV p vars = false by unfold okV; rw [hok]; rfl)
    have H2 := Lib.hid (show chkV p vars = chkP p by unfold chkV; rw [if_pos hok])
    have HF := Lib.hid hfv
    obtain ⟨q, rfl⟩ := hfv.ne_nil
    clear hok hfv
    have HK0 := Lib.hid hk0
    clear hk0
    go_wp2_with fail
    go_ret
    exact ⟨hb1, .inr ⟨H1.out, by rw [H2.out]; exact HK0.out, _, rfl, by rw [H2.out]; exact HF.out⟩⟩
end Go.Proofs.YtipenfeplampeaaDoor

/- subst.turned, within, alike. -/
namespace Go.Proofs.YtipenfeplampeaaDoor
open Go.RowKit

def letB : ByteArray := ⟨#[97, 98, 99, 100, 101, 102, 103, 104, 105, 106, 107, 108, 109, 110, 111, 112, 113, 114, 115, 116, 117, 118, 119, 120, 121, 122, 65, 66, 67, 68, 69, 70, 71, 72, 73, 74, 75, 76, 77, 78, 79, 80, 81, 82, 83, 84, 85, 86, 87, 88, 89, 90]⟩
theorem let_byte : ∀ c : Fin 128, hasB letB (UInt8.ofNat c.1) = isLet c.1 := by decide +kernel
theorem turn_xor : ∀ c : Fin 128, isLet c.1 = true → bits .xor .i64 (c.1 : Int) 32 = ((turnC c.1 : Nat) : Int) := by decide +kernel
theorem and_low (c : Nat) (h : c < 9223372036854775808) : bits .and .i64 (c : Int) 127 = ((c % 128 : Nat) : Int) := by
  show IntKind.i64.wrap ((BitVec.ofInt 64 (c : Int) &&& BitVec.ofInt 64 127).toNat : Int) = _
  rw [BitVec.ofInt_natCast, show (127 : Int) = ((127 : Nat) : Int) from rfl, BitVec.ofInt_natCast, BitVec.toNat_and, BitVec.toNat_ofNat, BitVec.toNat_ofNat, Nat.mod_eq_of_lt (a := c) (by omega), Nat.mod_eq_of_lt (a := 127) (by omega), show (127 : Nat) = 2 ^ 7 - 1 by rfl, Nat.and_two_pow_sub_one_eq_mod]
  simp only [IntKind.wrap, IntKind.signed, IntKind.bits]
  simp
  omega
theorem turn_other {c : Nat} (h : isLet c = false) : turnC c = c := by
  unfold isLet at h
  simp at h
  unfold turnC
  rw [if_neg (by omega), if_neg (by omega)]
theorem let_small {c : Nat} (h : 128 ≤ c) : isLet c = false := by
  unfold isLet; simp; omega
theorem turn_lt {c : Nat} (h : c < 128) : turnC c < 128 := by unfold turnC; split <;> (try split) <;> omega
theorem let_nat {d : Nat} (h : d < 128) : hasB letB (UInt8.ofNat d) = isLet d := let_byte ⟨d, h⟩
theorem xor_nat {d : Nat} (h : d < 128) (h2 : isLet d = true) : bits .xor .i64 (d : Int) 32 = ((turnC d : Nat) : Int) := turn_xor ⟨d, h⟩ h2
theorem nat_u8 (d : Nat) : ((d : Int).toNat.toUInt8) = UInt8.ofNat d := by simp
set_option maxHeartbeats 1600000 in
set_option maxRecDepth 100000 in
theorem sub_turned (c : Nat) (hc : c ≤ 1114111) (w : World) : Calls Tryd.prog 77 #[.int .i64 (c : Int)] w fun e w' => e = .returned (.int .i64 (turnC c : Nat)) ∧ w = w' := by
  have hand := and_low c (by omega)
  have hyes : c < 128 → isLet c = true → bits .xor .i64 (c : Int) 32 = ((turnC c : Nat) : Int) := fun h h2 => xor_nat h h2
  have hno : isLet c = false → turnC c = c := turn_other
  have hlow : c < 128 → isLet (c % 128) = isLet c := fun h => by rw [Nat.mod_eq_of_lt h]
  have hbig : ¬ c < 128 → isLet c = false := fun h => let_small (by omega)
  obtain ⟨d, hd, hd2⟩ : ∃ d, c % 128 = d ∧ d < 128 := ⟨_, rfl, Nat.mod_lt _ (by omega)⟩
  rw [hd] at hand hlow
  have hw : IntKind.u8.wrap (d : Int) = (d : Int) := IntWalk.u8_in _ (by omega)
  have hcall := fun W => Tryd.strings_IndexByte letB (d : Int) W
  rw [nat_u8] at hcall
  have hix := index_has letB (UInt8.ofNat d)
  rw [let_nat hd2] at hix
  have HC := Lib.hid hcall
  have HL := Lib.hid hlow
  have HB := Lib.hid hbig
  have HN := Lib.hid hno
  have HY := Lib.hid hyes
  clear hcall hlow hbig hno hyes hd hd2
  generalize Lib.indexByte letB.data.toList (UInt8.ofNat d) = ix at *
  by_cases h : c < 128
  · have hI : (c : Int) < 128 := by omega
    rcases hix with ⟨h1, h2⟩ | ⟨h1, h2⟩
    · have hx := HY.out h ((HL.out h).symm.trans h1)
      clear h1 h
      go_enter Tryd.func77, Tryd.ntmps77
      go_wp2_with fail
      refine (HC.out _).mono ?_
      rintro e w2 ⟨rfl, rfl⟩
      go_wp2_with fail
      go_ret
      exact ⟨rfl, rfl⟩
    · have hx := Lib.hid (HN.out ((HL.out h).symm.trans h1))
      clear h1 h
      go_enter Tryd.func77, Tryd.ntmps77
      go_wp2_with fail
      refine (HC.out _).mono ?_
      rintro e w2 ⟨rfl, rfl⟩
      go_wp2_with fail
      go_ret
      exact ⟨ret_i64 (by rw [hx.out]), rfl⟩
  · have hI : ¬ (c : Int) < 128 := by omega
    have hx := Lib.hid (HN.out (HB.out h))
    clear h
    rcases hix with ⟨h1, h2⟩ | ⟨h1, h2⟩
    · clear h1
      go_enter Tryd.func77, Tryd.ntmps77
      go_wp2_with fail
      refine (HC.out _).mono ?_
      rintro e w2 ⟨rfl, rfl⟩
      go_wp2_with fail
      go_ret
      exact ⟨ret_i64 (by rw [hx.out]), rfl⟩
    · clear h1
      go_enter Tryd.func77, Tryd.ntmps77
      go_wp2_with fail
      refine (HC.out _).mono ?_
      rintro e w2 ⟨rfl, rfl⟩
      go_wp2_with fail
      go_ret
      exact ⟨ret_i64 (by rw [hx.out]), rfl⟩
end Go.Proofs.YtipenfeplampeaaDoor
