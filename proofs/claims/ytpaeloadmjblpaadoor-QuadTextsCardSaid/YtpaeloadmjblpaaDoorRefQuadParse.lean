/- The reference's Parse of chapter 11. -/
import Derived.Test.YtpaeloadmjblpaaDoorQuadRes
import Derived.Test.YtpaeloadmjblpaaDoorRefQuadNum
import Derived.Test.YtpaeloadmjblpaaDoorRefFields
import Derived.Test.YtpaeloadmjblpaaDoorV4
import Derived.Test.YtpaeloadmjblpaaDoorRowSl
import Derived.Test.YtpaeloadmjblpaaDoorStillQuiet
import Derived.Deep.DeepCutAuto
namespace Go.Proofs.YtpaeloadmjblpaaDoor
open Go.RowKit

theorem lim_last {i n x : Nat} (hi : i + 1 = n) (hn : n ≤ 4) : limQ i n < x ↔ 256 ^ (5 - n) ≤ min x p40 := by
  unfold limQ
  rw [if_pos hi]
  have h1 : 0 < 256 ^ (5 - n) := Nat.pow_pos (by omega)
  have h2 : 256 ^ (5 - n) ≤ p40 := by
    have : 256 ^ (5 - n) ≤ 256 ^ 4 := Nat.pow_le_pow_right (by omega) (by omega)
    unfold p40; omega
  omega
theorem lim_not {i n x : Nat} (hi : ¬ i + 1 = n) : limQ i n < x ↔ 255 < min x p40 := by
  unfold limQ
  rw [if_neg hi]
  unfold p40
  omega
theorem min_small {i n x : Nat} (hi : i < n) (hn : n ≤ 4) (h : ¬ limQ i n < x) : min x p40 = x := by
  have := lim_p40 hi hn
  unfold p40
  omega
theorem wt_last {i n : Nat} (hi : i + 1 = n) : wtQ i n = 1 := by unfold wtQ; rw [if_pos hi]
theorem wt_not {i n : Nat} (hi : ¬ i + 1 = n) : wtQ i n = 256 ^ (3 - i) := by unfold wtQ; rw [if_neg hi]
theorem three_of (s : ByteArray) : ((formQ s).1 = 16 ∧ (formQ s).2.2 = hexQ) ∨ ((formQ s).1 = 8 ∧ (formQ s).2.2 = octQ) ∨ ((formQ s).1 = 10 ∧ (formQ s).2.2 = decQ) := by
  rcases formQ_three s with ⟨_, h, _⟩ | ⟨_, _, h, _⟩ | ⟨_, _, h⟩ <;> rw [h] <;> simp
def RQParsePost (s : ByteArray) (w : World) (e : Ending) (w' : World) : Prop := Below w.heap.size w w' ∧ e = .returned (.tuple #[v4N (parseQ s).1, .int .i64 ((parseQ s).2.1 : Int), .int .i64 ((parseQ s).2.2 : Int)])
theorem RQParsePost.bad {s : ByteArray} {w w' : World} {k a : Nat} (hb : Below w.heap.size w w') (h : parseQ s = (0, k, a)) {x y : Int} (hx : x = (k : Int)) (hy : y = (a : Int)) : RQParsePost s w (.returned (.tuple #[.agg zero4, .int .i64 x, .int .i64 y])) w' := by
  refine ⟨hb, ?_⟩
  rw [h, hx, hy]
  simp [v4N, v4, zero4]
theorem RQParsePost.good {s : ByteArray} {w w' : World} {t : Nat} (hb : Below w.heap.size w w') (h : parseQ s = (t, 0, 0)) : RQParsePost s w (.returned (.tuple #[v4N t, .int .i64 0, .int .i64 0])) w' := by
  refine ⟨hb, ?_⟩
  rw [h]; rfl
set_option maxHeartbeats 6400000 in
set_option maxRecDepth 100000 in
theorem ref11_Parse (s : ByteArray) (hs : s.size ≤ 16777216) (w : World) : Calls Tryd.prog 10 #[.string s] w (RQParsePost s w) := by
  have cC := Lib.hid (fun W => ref11_cut s hs W)
  have hcz := cutP_size s
  have cF := Lib.hid (fun W => ref_Fields (cutP s) 46 4 W (by omega) (by omega) (by omega))
  have HOV := Lib.hid (fun i h1 h2 h3 => parse_over (s := s) (over_some (t := cutP s) (mark := 46) (most := 4) (i := i) h1 h2 h3))
  have HON := Lib.hid (fun h => over_none (t := cutP s) (mark := 46) (most := 4) h)
  have HB := Lib.hid (fun k a h h2 => @parse_bad s k a h h2)
  have HR := Lib.hid (fun t p h h2 h3 => @parse_range s t p h h2 h3)
  have HG := Lib.hid (fun t h h2 h3 => @parse_good s t h h2 h3)
  have hpost := fun w' k a hb h x y hx hy => @RQParsePost.bad s w w' k a hb h x y hx hy
  have hpost2 := fun w' t hb h => @RQParsePost.good s w w' t hb h
  have HP := Lib.hid hpost
  have HP2 := Lib.hid hpost2
  clear hpost hpost2
  generalize cutP s = t at *
  go_enter Tryd.func10, Tryd.ntmps10
  go_wp2_with fail
  refine (cC.out _).mono ?_
  rintro e w2 ⟨rfl, rfl⟩
  go_wp2_with fail
  refine (cF.out _).mono ?_
  rintro e w3 ⟨hb3, h⟩
  have hz3 := (V4At.new w).below hb3
  have hb13 : Below w.heap.size w w3 := ((Below.refl _ _).alloc (Nat.le_refl _) _).trans (hb3.mono (by simp))
  have hw3 : w.heap.size < w3.heap.size := hz3.lt
  clear hb3
  rcases h with ⟨v, rfl, hlen, hown⟩ | ⟨i, rfl, hi, hmk, hlen⟩
  · have hon := HON.out hlen
    have hfl := fields_len t 46
    have hfz := fields_sizes t 46
    have hown : w3.ownsRow (w.heap.size + 1) 9 1 v (fieldsB t 46).length ((fieldsB t 46).map strV) := by rw [hfl]; have h := hown; simp only [World.size_alloc] at h; exact h
    have HB' := Lib.hid (fun k a h2 => HB.out k a hon h2)
    have HR' := Lib.hid (fun u p h2 h3 => HR.out u p hon h2 h3)
    have HG' := Lib.hid (fun u h2 h3 => HG.out u hon h2 h3)
    have HCN := Lib.hid (fun h => check_none (ps := fieldsB t 46) 0 h)
    have hn4 : (fieldsB t 46).length ≤ 4 := by rw [hfl]; omega
    have hn1 : 1 ≤ (fieldsB t 46).length := by rw [hfl]; omega
    obtain ⟨pa, pc, rfl, hpc1, hpc2, hrow⟩ := row_sl (l := (fieldsB t 46).map strV) hown (by simp)
    rw [List.length_map] at hpc1 ⊢
    generalize fieldsB t 46 = ps at *
    unfold maxLen at hpc2
    have HFZ := Lib.hid hfz
    clear hlen hown hfl HB HR HG HON HOV hon hfz
    have hrows : ∀ i p, ps[i]? = some p → ∃ b, pa = some ⟨b, 0, none⟩ ∧ b < w3.heap.size ∧ w3.cell? ⟨b, i, none⟩ = some (.string p) := fun i p h => hrow i _ (by rw [List.getElem?_map, h]; rfl)
    have HROW := Lib.hid hrows
    clear hrows hrow
    go_wp2_with fail
    go_loop [8, 9] (fun a x => ∃ i n : Nat, i ≤ ps.length ∧ x = .int .i64 i ∧ a = .int .i64 n ∧ n ≤ i * 16777217 ∧ checkQ ps 0 = checkQ (ps.drop i) n) (fun _ x => ps.length - (intOf x).toNat)
    case atStart => exact ⟨0, 0, Nat.zero_le _, rfl, rfl, Nat.zero_le _, rfl⟩
    case round =>
      obtain ⟨i, n, hil, rfl, rfl, hn, hck⟩ := hrel
      by_cases hlt : i < ps.length
      · obtain ⟨p, hp⟩ : ∃ p, ps[i]? = some p := ⟨_, List.getElem?_eq_getElem hlt⟩
        have hpz := HFZ.out p (List.mem_of_getElem? hp)
        obtain ⟨b, rfl, hbl, hbc⟩ := HROW.out i p hp
        rw [drop_cons hp] at hck
        have hyes := fun h => hck.trans (check_yes (ps := ps.drop (i + 1)) (a := n) h)
        have hno := fun k j h => hck.trans (check_no (p := p) (ps := ps.drop (i + 1)) (a := n) (k := k) (j := j) h)
        have HY := Lib.hid hyes
        have HNO := Lib.hid hno
        clear hck hyes hno hp
        by_cases h0 : p.size = 0
        · have HV := Lib.hid (HB'.out 10 n (HNO.out 10 0 (badQ_empty h0)))
          have hz : ((p.size : Int) == 0) = true := by rw [h0]; rfl
          clear h0
          go_wp2_with (refine wpList_store_v4 (o := ⟨none, _, _, _, _, _⟩) rfl _ _ rfl w.heap.size 0 0 0 0 rfl rfl _ hz3 ?_; intro hst)
          (try simp only [Exit.inBlock, Exit.then])
          refine bodyPost_ret (results_v4_3 rfl rfl hst) rfl ?_
          exact HP.out _ 10 n (below_setRow hb13 (Nat.le_refl _) _) HV.out _ _ rfl rfl
        · have hz : ((p.size : Int) == 0) = false := by rw [beq_eq_false_iff_ne]; omega
          have HO := Lib.hid (fun i h => @badQ_out p i h0 h)
          have HN := Lib.hid (fun h => @badQ_no p h0 h)
          have hsz : (formQ p).2.1 + (digsQ p).size = p.size := by
            rcases digsQ_size p with h | h
            · exact h
            · exact absurd h h0
          have hbyte : ∀ k, k < (digsQ p).size → byteAt p ((formQ p).2.1 + k) = byteAt (digsQ p) k := fun k hk => by
            unfold digsQ
            rw [byte_ext _ _ _ (by omega)]
          have hthree := three_of p
          have cB := Lib.hid (fun W => ref11_base p (by omega) W)
          have HBYTE := Lib.hid hbyte
          have HTHREE := Lib.hid hthree
          have hms : (formQ p).2.2.size ≤ 22 := by rcases hthree with ⟨_, h⟩ | ⟨_, h⟩ | ⟨_, h⟩ <;> rw [h] <;> decide
          clear hbyte hthree h0
          generalize (formQ p).1 = bs at *
          generalize (formQ p).2.1 = sk at *
          generalize (formQ p).2.2 = m at *
          generalize digsQ p = d at *
          go_wp2_with fail
          refine (cB.out _).mono ?_
          rintro e w4 ⟨rfl, rfl⟩
          go_upto_if 53 with (fail)
          go_cut [12] (fun v wx => v = .string (if bs = 10 then decQ else hexQ) ∧ w3 = wx)
          case first =>
            rcases HTHREE.out with ⟨rfl, rfl⟩ | ⟨rfl, rfl⟩ | ⟨rfl, rfl⟩
            all_goals
              go_wp2_with fail
              go_meet
              exact ⟨rfl, rfl⟩
          case rest =>
            obtain ⟨rfl, rfl⟩ := hcut
            go_upto_if 55 with (fail)
            go_cut [12] (fun v wx => v = .string m ∧ w3 = wx)
            case first =>
              rcases HTHREE.out with ⟨rfl, rfl⟩ | ⟨rfl, rfl⟩ | ⟨rfl, rfl⟩
              all_goals
                go_wp2_with fail
                go_meet
                exact ⟨rfl, rfl⟩
            case rest =>
              obtain ⟨rfl, rfl⟩ := hcut
              go_wp2_with fail
              go_loop [13] (fun x => ∃ j : Nat, j ≤ d.size ∧ x = .int .i64 (sk + j : Nat) ∧ ∀ k, k < j → hasB m (byteAt d k) = true) (fun x => p.size - (intOf x).toNat)
              case atStart => exact ⟨0, Nat.zero_le _, rfl, fun k hk => by omega⟩
              case round =>
                obtain ⟨j, hjl, rfl, hall⟩ := hrel
                have HA := Lib.hid hall
                clear hall
                by_cases hjt : j < d.size
                · have hb := HBYTE.out j hjt
                  have hlt2 : sk + j < p.size := by omega
                  have hidx := byteAt_idx hlt2
                  rw [hb] at hidx
                  have hsome := fun h => firstOut_some (m := m) hjt HA.out h
                  have HSOME := Lib.hid hsome
                  have hnext : hasB m (byteAt d j) = true → ∀ k, k < j + 1 → hasB m (byteAt d k) = true := fun h k hk => by
                    by_cases hkj : k = j
                    · rw [hkj]; exact h
                    · exact HA.out k (by omega)
                  have HNEXT := Lib.hid hnext
                  have cH := Lib.hid (fun W => ref_Has m (byteAt d j) W (by omega))
                  have hjI : ((sk + j : Nat) : Int) < (p.size : Int) := by omega
                  clear hb hsome hnext
                  go_wp2_with fail
                  refine (cH.out _).mono ?_
                  rintro e w5 ⟨rfl, rfl⟩
                  clear hidx
                  by_cases hh : hasB m (byteAt d j) = true
                  · rw [hh]
                    have HX := Lib.hid (HNEXT.out hh)
                    clear hh
                    go_wp2_with fail
                    go_round
                    case rel => exact ⟨j + 1, by omega, by go_num, HX.out⟩
                    case measure => simp [intOf]; omega
                  · have hh : hasB m (byteAt d j) = false := by simpa using hh
                    rw [hh]
                    have HV := Lib.hid (HB'.out 11 (n + (sk + j)) (HNO.out 11 (sk + j) (HO.out _ (HSOME.out hh))))
                    clear hh
                    go_wp2_with (refine wpList_store_v4 (o := ⟨none, _, _, _, _, _⟩) rfl _ _ rfl w.heap.size 0 0 0 0 rfl rfl _ hz3 ?_; intro hst)
                    (try simp only [Exit.inBlock, Exit.then])
                    refine bodyPost_ret (results_v4_3 rfl rfl hst) rfl ?_
                    exact HP.out _ 11 (n + (sk + j)) (below_setRow hb13 (Nat.le_refl _) _) HV.out _ _ rfl (by simp)
                · obtain rfl : j = d.size := by omega
                  have HCK := Lib.hid (HY.out (HN.out (firstOut_none HA.out)))
                  have hjI : ¬ ((sk + d.size : Nat) : Int) < (p.size : Int) := by omega
                  go_wp2_with fail
                  go_round
                  case rel => exact ⟨i + 1, n + (p.size + 1), by omega, by go_num, by go_num, by omega, HCK.out⟩
                  case measure => simp [intOf]; omega
      · obtain rfl : i = ps.length := by omega
        rw [List.drop_length] at hck
        have hck0 : checkQ ps 0 = none := hck
        have hbads := HCN.out hck0
        have HR := Lib.hid (fun u p h3 => HR'.out u p hck0 h3)
        have HG := Lib.hid (fun u h3 => HG'.out u hck0 h3)
        have HBADS := Lib.hid hbads
        clear hck hck0 hbads HCN HR' HG' HB' hn hil
        go_wp2_with fail
        go_loopw [14, 15, 16] (fun b a x wr => ∃ i n u : Nat, i ≤ ps.length ∧ x = .int .i64 i ∧ a = .int .i64 n ∧ b = .int .u64 u ∧ n ≤ i * 16777217 ∧ u ≤ i * 4294967295 ∧ sumQ ps.length ps 0 0 0 = sumQ ps.length (ps.drop i) i n u ∧ Below w3.heap.size w3 wr) (fun _ _ x _ => ps.length - (intOf x).toNat)
        case atStart => exact ⟨0, 0, 0, Nat.zero_le _, rfl, rfl, rfl, Nat.zero_le _, Nat.zero_le _, rfl, Below.refl _ _⟩
        case round =>
          obtain ⟨i, n, u, hil, rfl, rfl, rfl, hn, hu, hck, hbr⟩ := hrel
          have hz4 := hz3.below hbr
          have hb14 := hb13.trans (hbr.mono (Nat.le_of_lt hw3))
          by_cases hlt : i < ps.length
          · obtain ⟨p, hp⟩ : ∃ p, ps[i]? = some p := ⟨_, List.getElem?_eq_getElem hlt⟩
            have hpz := HFZ.out p (List.mem_of_getElem? hp)
            have hbad := HBADS.out p (List.mem_of_getElem? hp)
            obtain ⟨b, rfl, hbl, hbc⟩ := HROW.out i p hp
            rw [drop_cons hp] at hck
            have hbl2 := Nat.lt_of_lt_of_le hbl hbr.size
            have hbc2 := (hbr.cell (p := ⟨b, i, none⟩) hbl).trans hbc
            have hno := fun h => hck.trans (sum_no (n := ps.length) (i := i) (a := n) (t := u) (p := p) (ps := ps.drop (i + 1)) h)
            have hyes := fun h => hck.trans (sum_yes (n := ps.length) (i := i) (a := n) (t := u) (p := p) (ps := ps.drop (i + 1)) h)
            have hlw := fun h => (lim_wt (i := i) (n := ps.length) (x := numQ p) hlt hn4 h).1
            have hms := fun h => min_small (i := i) (n := ps.length) (x := numQ p) hlt hn4 h
            have hll := fun h => @lim_last i ps.length (numQ p) h hn4
            have hln := fun h => @lim_not i ps.length (numQ p) h
            have cN := Lib.hid (fun W => ref11_number p (by omega) hbad W)
            have HY := Lib.hid hyes
            have HNO := Lib.hid hno
            have HLW := Lib.hid hlw
            have HMS := Lib.hid hms
            have HLL := Lib.hid hll
            have HLN := Lib.hid hln
            clear hck hyes hno hp hbad hlw hms hll hln
            go_wp2_with fail
            refine (cN.out _).mono ?_
            rintro e w6 ⟨hb6, rfl⟩
            have hb36 := Bt hbr hb6
            have hz6 := hz3.below hb36
            have hb16 := hb13.trans (hb36.mono (Nat.le_of_lt hw3))
            have hbl6 := Nat.lt_of_lt_of_le hbl2 hb6.size
            have hbc6 := (hb6.cell (p := ⟨b, i, none⟩) hbl2).trans hbc2
            clear cN hbl hbc hbl2 hbc2 hz4 hb14 hb6 hbr
            generalize hmm : min (numQ p) p40 = mm at *
            clear hmm
            by_cases hlast : i + 1 = ps.length
            · have e1 : ((i : Int) == (ps.length : Int) - 1) = true := by rw [beq_iff_eq]; omega
              have e5 : (5 : Int) - (ps.length : Int) = ((5 - ps.length : Nat) : Int) := by omega
              have cP := Lib.hid (fun W => ref11_power (5 - ps.length) (by omega) W)
              have hl := HLL.out hlast
              have hwt := wt_last hlast
              generalize 256 ^ (5 - ps.length) = pw at *
              generalize limQ i ps.length = lim at *
              generalize wtQ i ps.length = wt at *
              have E5 := Lib.hid e5
              clear e5 hlast
              by_cases hov : lim < numQ p
              · have HV := Lib.hid (HR.out 0 n (HNO.out hov))
                have hpm := hl.1 hov
                have hpmI : (pw : Int) ≤ (mm : Int) := by omega
                clear hov hl hwt hpm
                go_wp2_with fail
                rw [E5.out]
                refine (cP.out _).mono ?_
                rintro e w7 ⟨rfl, rfl⟩
                go_wp2_with (refine wpList_store_v4 (o := ⟨none, _, _, _, _, _⟩) rfl _ _ rfl w.heap.size 0 0 0 0 rfl rfl _ hz6 ?_; intro hst)
                (try simp only [Exit.inBlock, Exit.then])
                refine bodyPost_ret (results_v4_3 rfl rfl hst) rfl ?_
                exact HP.out _ 16 n (below_setRow hb16 (Nat.le_refl _) _) HV.out _ _ rfl rfl
              · have hpm : ¬ pw ≤ mm := fun h => hov (hl.2 h)
                have hpmI : (mm : Int) < (pw : Int) := by omega
                have hmw := HLW.out hov
                have hck := HY.out hov
                have hm := HMS.out hov
                rw [← hm, hwt, Nat.mul_one] at hck
                rw [← hm, hwt, Nat.mul_one] at hmw
                have HCK := Lib.hid hck
                clear hov hl hwt hpm hck hm HY HNO HLW HMS
                go_wp2_with fail
                rw [E5.out]
                refine (cP.out _).mono ?_
                rintro e w7 ⟨rfl, rfl⟩
                go_wp2_with fail
                go_roundw
                case rel => exact ⟨i + 1, n + (p.size + 1), u + mm, by omega, by go_num, by go_num, by go_num, by omega, by omega, HCK.out, hb36⟩
                case measure => simp [intOf]; omega
            · have e1 : ((i : Int) == (ps.length : Int) - 1) = false := by rw [beq_eq_false_iff_ne]; omega
              have e5 : (3 : Int) - (i : Int) = ((3 - i : Nat) : Int) := by omega
              have cP := Lib.hid (fun W => ref11_power (3 - i) (by omega) W)
              have hl := HLN.out hlast
              have hwt := wt_not hlast
              generalize 256 ^ (3 - i) = pw at *
              generalize limQ i ps.length = lim at *
              generalize wtQ i ps.length = wt at *
              have E5 := Lib.hid e5
              clear e5 hlast
              by_cases hov : lim < numQ p
              · have HV := Lib.hid (HR.out 0 n (HNO.out hov))
                have hpm := hl.1 hov
                have hpmI : (255 : Int) < (mm : Int) := by omega
                clear hov hl hwt hpm
                go_wp2_with (refine wpList_store_v4 (o := ⟨none, _, _, _, _, _⟩) rfl _ _ rfl w.heap.size 0 0 0 0 rfl rfl _ hz6 ?_; intro hst)
                (try simp only [Exit.inBlock, Exit.then])
                refine bodyPost_ret (results_v4_3 rfl rfl hst) rfl ?_
                exact HP.out _ 16 n (below_setRow hb16 (Nat.le_refl _) _) HV.out _ _ rfl rfl
              · have hpm : ¬ 255 < mm := fun h => hov (hl.2 h)
                have hpmI : (mm : Int) ≤ 255 := by omega
                have hmw := HLW.out hov
                have hck := HY.out hov
                have hm := HMS.out hov
                rw [← hm, hwt] at hck
                rw [← hm, hwt] at hmw
                have HCK := Lib.hid hck
                have hmwI : (mm : Int) * (pw : Int) ≤ 4294967295 := by rw [← Int.natCast_mul]; omega
                have hmw0 : (0 : Int) ≤ (mm : Int) * (pw : Int) := by rw [← Int.natCast_mul]; omega
                have huI : (u : Int) ≤ 17179869180 := by omega
                have HMW := Lib.hid hmw
                have HU := Lib.hid hu
                clear hov hl hwt hpm hck hm HY HNO HLW HMS hmw hu
                go_wp2_with fail
                rw [E5.out]
                refine (cP.out _).mono ?_
                rintro e w7 ⟨rfl, rfl⟩
                go_wp2_with fail
                go_roundw
                case rel => exact ⟨i + 1, n + (p.size + 1), u + mm * pw, by omega, by go_num, by go_num, by rw [Int.natCast_add, Int.natCast_mul], by omega, by have := HMW.out; have := HU.out; omega, HCK.out, hb36⟩
                case measure => simp [intOf]; omega
          · obtain rfl : i = ps.length := by omega
            rw [List.drop_length] at hck
            have HV := Lib.hid (HG.out u hck)
            have huz : (u : Int) ≤ 18446744073709551615 := by omega
            have cP3 : ∀ W : World, Calls Tryd.prog 29 #[.int .i64 3] W fun e w' => e = .returned (.int .u64 16777216) ∧ w' = W := fun W => by have h := ref11_power 3 (by omega) W; rw [show (256 ^ 3 : Nat) = 16777216 by decide] at h; simpa using h
            have cP2 : ∀ W : World, Calls Tryd.prog 29 #[.int .i64 2] W fun e w' => e = .returned (.int .u64 65536) ∧ w' = W := fun W => by have h := ref11_power 2 (by omega) W; rw [show (256 ^ 2 : Nat) = 65536 by decide] at h; simpa using h
            have C3 := Lib.hid cP3
            have C2 := Lib.hid cP2
            clear hck hn hu cP3 cP2
            go_wp2_with fail
            refine wp_region_still_tail 14 (by kernel_rfl) (by kernel_rfl) ?_
            simp only [List.take_succ_cons, List.take_zero, List.drop_succ_cons, List.drop_zero]
            change wpStill _ _ wr.drew (fun a' => wpList _ _ _ _ a' wr.drew) _ _
            refine wpStill_of_quiet _ _ ?_
            (go_big_quiet_want; go_big_quiet_op; go_big_quiet_on)
            (go_big_quiet_want; go_big_quiet_op; (refine ⟨_, C3.out _, ?_⟩; go_big_quiet_on))
            (go_big_quiet_want; go_big_quiet_op; go_big_quiet_on)
            (go_big_quiet_want; go_big_quiet_op; go_big_quiet_on)
            (go_big_quiet_want; go_big_quiet_op; go_big_quiet_on)
            (go_big_quiet_want; go_big_quiet_op; (refine ⟨_, C2.out _, ?_⟩; go_big_quiet_on))
            (go_big_quiet_want; go_big_quiet_op; go_big_quiet_on)
            (go_big_quiet_want; go_big_quiet_op; go_big_quiet_on)
            (go_big_quiet_want; go_big_quiet_op; go_big_quiet_on)
            (go_big_quiet_want; go_big_quiet_op; go_big_quiet_on)
            (go_big_quiet_want; go_big_quiet_op; go_big_quiet_on)
            (go_big_quiet_want; go_big_quiet_op; go_big_quiet_on)
            (go_big_quiet_want; go_big_quiet_op; go_big_quiet_on)
            (go_big_quiet_want; go_big_quiet_op; go_big_quiet_on)
            refine wpQuiet_nil ?_
            have hz5 : V4At wr.drew w.heap.size zero4 := hz4
            have hb15 : Below w.heap.size w wr.drew := hb14.drew
            generalize wr.drew = w5 at *
            go_wp2_with (refine wpList_store_v4 (o := ⟨none, _, _, _, _, _⟩) rfl _ _ rfl w.heap.size _ _ _ _ rfl rfl _ hz5 ?_; intro hst)
            (try simp only [Exit.inBlock, Exit.then])
            refine bodyPost_ret (results_v4_3 rfl rfl hst) rfl ?_
            have e1 : (u : Int) / 16777216 % 256 = ((u / 16777216 % 256 : Nat) : Int) := by omega
            have e2 : (u : Int) / 65536 % 256 = ((u / 65536 % 256 : Nat) : Int) := by omega
            have e3 : (u : Int) / 256 % 256 = ((u / 256 % 256 : Nat) : Int) := by omega
            have e4 : (u : Int) % 256 = ((u % 256 : Nat) : Int) := by omega
            rw [e1, e2, e3, e4]
            exact HP2.out _ u (below_setRow hb15 (Nat.le_refl _) _) HV.out
  · have HV := Lib.hid (HOV.out i hi hmk hlen)
    clear hi hmk hlen
    go_wp2_with (refine wpList_store_v4 (o := ⟨none, _, _, _, _, _⟩) rfl _ _ rfl w.heap.size 0 0 0 0 rfl rfl _ hz3 ?_; intro hst)
    (try simp only [Exit.inBlock, Exit.then])
    refine bodyPost_ret (results_v4_3 rfl rfl hst) rfl ?_
    exact HP.out _ 15 i (below_setRow hb13 (Nat.le_refl _) _) HV.out _ _ rfl rfl
end Go.Proofs.YtpaeloadmjblpaaDoor
