/- The reference's Simple, walked. -/
import Derived.Test.YtlnnimmiifdnnaaDoorGlobRefSimple
namespace Go.Proofs.YtlnnimmiifdnnaaDoor
open Go.RowKit

set_option maxHeartbeats 12800000 in
set_option maxRecDepth 100000 in
theorem ref_Simple (p s : ByteArray) (w : World) (hp : p.size ≤ 16777216) (hs : s.size ≤ 16777216) :
    Calls Tryd.prog 17 #[.string p, .string s] w fun e w' => e = .returned (.bool (simpleB p s)) ∧ Below w.heap.size w w' := by
  have hiff := okS_iff p
  have cC' : ∀ W : World, Calls Tryd.prog 16 #[.string p] W fun e w' => Below W.heap.size W w' ∧ e = .returned (.tuple #[.int .i64 ((chkS p (chkP p)).1 : Int), .int .i64 ((chkS p (chkP p)).2 : Int)]) := fun W => ref_CheckSimple p W hp
  have cC := Lib.hid cC'
  clear cC'
  generalize (chkS p (chkP p)).1 = k0 at *
  generalize (chkS p (chkP p)).2 = k1 at *
  go_enter Tryd.func17, Tryd.ntmps17
  go_wp2_with fail
  refine (cC.out _).mono ?_
  rintro e w1 ⟨hb1, rfl⟩
  go_wp2_with ((with_reducible refine wpList_bytes_sl rfl 9 27 5 _ rfl p rfl Tryd.underlying9 Tryd.underlying27 Tryd.underlying5 (by omega) ?_); intro v2 w2 hv2 hb2)
  have hb12 := Bt hb1 hb2
  refine (ref_Chars v2 p _ hp hv2).mono ?_
  rintro e w3 ⟨hb3, hcp⟩
  have hb13 := Bt hb12 hb3
  clear hb1 hb2 hb3 hb12
  obtain ⟨vp, ip, rfl, hpown⟩ : ∃ vp ip, e = .returned (.tuple #[vp, .int .i64 ip]) ∧ ((chrs p).2 = none → w3.ownsRow w2.heap.size 3 1 vp (chrs p).1.length ((chrs p).1.map intV)) := by
    rcases hcp with ⟨_, v3, e3, h3⟩ | ⟨i, hi, a3, e3⟩
    · exact ⟨_, _, e3, fun _ => h3⟩
    · exact ⟨_, _, e3, fun h => by rw [hi] at h; cases h⟩
  clear hcp
  go_wp2_with ((with_reducible refine wpList_bytes_sl rfl 9 27 5 _ rfl s rfl Tryd.underlying9 Tryd.underlying27 Tryd.underlying5 (by omega) ?_); intro v4 w4 hv4 hb4)
  have hb14 := Bt hb13 hb4
  refine (ref_Chars v4 s _ hs hv4).mono ?_
  rintro e w5 ⟨hb5, hcs⟩
  have hb15 := Bt hb14 hb5
  have hpown5 : (chrs p).2 = none → w5.ownsRow w2.heap.size 3 1 vp (chrs p).1.length ((chrs p).1.map intV) := fun h => ownsRow_below (ownsRow_below (hpown h) hb4) hb5
  clear hb13 hb4 hb14 hb5 hpown
  by_cases hk0 : k0 = 0
  · subst hk0
    have hok := hiff.1 rfl
    clear hiff
    rcases hcs with ⟨hn, v6, rfl, hown⟩ | ⟨i, hi, a3, rfl⟩
    · have HV := Lib.hid (simpleB_run hok hn)
      have hpn := (okP_none (okS_run hok).1).1
      obtain ⟨pa, pc, rfl, hpc1, hpc2, hpsl⟩ := chars_sl (hpown5 hpn) rfl
      obtain ⟨sa, sc, rfl, hsc1, hsc2, hssl⟩ := chars_sl hown rfl
      have hpl := chrs_len p
      have hsl := chrs_len s
      have HCLE := Lib.hid (@chrs_le s)
      have HPLE := Lib.hid (@chrs_le p)
      have HSTEP := Lib.hid (fun i pl b ps h hb => @RSt.step p i pl b ps hok h hb)
      have HEND := Lib.hid (fun pl ps h => @RSt.end' p pl ps h)
      have hr0 : RSt (chrs p).1 0 0 [] := RSt.zero
      generalize (chrs p).1 = l at *
      generalize (chrs s).1 = t at *
      have hmk := make_bools t.length (by omega)
      unfold maxLen at hpc2 hsc2
      clear hn hok hpn hown hpown5
      obtain ⟨i0, hi0, iz0, iz1, iz2⟩ := info_parts info_int
      obtain ⟨b0, bi0, bz0, bz1, bz2⟩ := info_parts info_bool
      go_wp2_with fail
      go_loopw [11, 12, 13, 14] (fun va vb vc x wr => ∃ (i : Nat) (ps : List GPart), i ≤ l.length ∧ ps.length ≤ i ∧ x = .int .i64 i ∧ (∃ pl, RSt l i pl ps) ∧ Own3 wr w5.heap.size va vb vc (charsV ps) (wildsV ps) (manysV ps) ∧ Below w5.heap.size w5 wr) (fun _ _ _ x _ => l.length - (intOf x).toNat)
      case atStart => exact ⟨0, [], Nat.zero_le _, Nat.le_refl _, rfl, ⟨_, hr0⟩, Own3.start w5 (Nat.le_refl _), (((Below.refl _ _).alloc (Nat.le_refl _) _).alloc (by simp) _).alloc (by simp; omega) _⟩
      case round =>
        obtain ⟨i, ps, hil, hpsl', rfl, ⟨pl, hst⟩, hown, hbr⟩ := hrel
        clear hr0
        by_cases hlt : i < l.length
        · obtain ⟨b, hb⟩ : ∃ b, l[i]? = some b := ⟨_, List.getElem?_eq_getElem hlt⟩
          obtain ⟨h42, j, c, pl', hj, hc, hx1, hx2⟩ := HSTEP.out i pl b ps hst hb
          have hcm := HPLE.out c (List.mem_of_getElem? hc)
          have hjl := (List.getElem?_eq_some_iff.1 hc).1
          obtain ⟨lb, rfl, hlb, hlc⟩ := (hpsl.below hbr) i b hb
          have hij : i ≤ j := by rw [hj]; split <;> omega
          have HX1 := Lib.hid hx1
          have HX2 := Lib.hid hx2
          have HC := Lib.hid hc
          have e46 : ((b : Int) == 46) = decide (b = 46) := by rw [Bool.eq_iff_iff]; simp; omega
          have hl1 := charsV_len ps
          have hl2 := wildsV_len ps
          have hl3 := manysV_len ps
          have hsn := fun q a b c wx h => @Own3.snoc wx w5.heap.size a b c ps q h
          have HSN := Lib.hid hsn
          generalize charsV ps = la at *
          generalize wildsV ps = lb' at *
          generalize manysV ps = lc at *
          generalize decide (b = 46) = wl at *
          clear hst hx1 hx2 hc hsn HSTEP HEND
          go_upto_if 61 with (fail)
          go_cut [14] (fun x wx => x = .int .i64 (j : Nat) ∧ wr = wx)
          case first =>
            by_cases h92 : b = 92
            · subst h92
              rw [if_pos rfl] at hj
              subst hj
              clear hown
              go_wp2_with fail
              go_meet
              exact ⟨by go_num, rfl⟩
            · rw [if_neg h92] at hj
              subst hj
              have e92 : ((b : Int) == 92) = false := by rw [beq_eq_false_iff_ne]; omega
              clear hown
              go_wp2_with fail
              go_meet
              exact ⟨rfl, rfl⟩
          case rest =>
            obtain ⟨rfl, rfl⟩ := hcut
            clear hj
            obtain ⟨lb1, elb, hlb1, hld⟩ := (hpsl.below hbr) j c HC.out
            cases elb
            have hlc8 : la.length ≤ 16777216 := by omega
            have hlb8 : lb'.length ≤ 16777216 := by omega
            have hlm8 : lc.length ≤ 16777216 := by omega
            have hwz := hbr.size
            clear hlc hl1 hl2 hl3
            go_wp2_with (at_builtin; refine wpList_append_own_at _ rfl _ _ 24 rfl w5.heap.size 3 i0 (.int .i64 0) 1 8 Tryd.underlying24 hi0 iz0 iz1 iz2 rfl (by decide) _ _ _ rfl (hown.below ((Below.refl _ _).alloc (Nat.le_refl _) _)).1 ⟨wr.heap.size, 0, none⟩ 1 1 [intV c] rfl rfl (cell_one_new _ _ _) ?c2 ?c3 ?c4 ?c5 ?_)
            case c2 => intro u hu; simp at hu; subst hu; rfl
            case c3 => unfold maxLen; omega
            case c4 => omega
            case c5 => simp; omega
            intro v1 w6 hown1 hg1 _ hat1
            have hO1 := (hown.below ((Below.refl _ _).alloc (Nat.le_refl _) (.cells #[intV c] 3))).appA hown1 hg1 (by simpa using hat1)
            have hb6 : Below w5.heap.size w5 w6 := below_app hbr hown.1 (Nat.le_refl _) hg1
            have hwz6 := hb6.size
            clear hown1 hg1 hat1 hown hbr hld
            go_wp2_with (at_builtin; refine wpList_append_own_at _ rfl _ _ 54 rfl w5.heap.size 4 b0 (.bool false) 1 1 Tryd.underlying54 bi0 bz0 bz1 bz2 rfl (by decide) _ _ _ rfl (hO1.below ((Below.refl _ _).alloc (Nat.le_refl _) _)).2.1 ⟨w6.heap.size, 0, none⟩ 1 1 [.bool wl] rfl rfl (cell_one_new _ _ _) ?c2 ?c3 ?c4 ?c5 ?_)
            case c2 => intro u hu; simp at hu; subst hu; rfl
            case c3 => unfold maxLen; omega
            case c4 => omega
            case c5 => simp; omega
            intro v2 w8 hown2 hg2 _ hat2
            have hO2 := (hO1.below ((Below.refl _ _).alloc (Nat.le_refl _) (.cells #[.bool wl] 4))).appB hown2 hg2 (by simpa using hat2)
            have hb8 : Below w5.heap.size w5 w8 := below_app hb6 hO1.2.1 (Nat.le_refl _) hg2
            have hwz8 := hb8.size
            clear hown2 hg2 hat2 hO1 hb6
            go_upto_region 15 with (fail)
            have hthree : (∃ m : Bool, m = true ∧ l[j + 1]? = some 42) ∨ (∃ g, l[j + 1]? = some g ∧ g ≠ 42) ∨ ¬ j + 1 < l.length := by
              by_cases h : j + 1 < l.length
              · by_cases h2 : l[j + 1]? = some 42
                · exact .inl ⟨true, rfl, h2⟩
                · exact .inr (.inl ⟨_, List.getElem?_eq_getElem h, fun h3 => h2 (by rw [List.getElem?_eq_getElem h, h3])⟩)
              · exact .inr (.inr h)
            rcases hthree with ⟨_, _, hst2⟩ | ⟨g, hg, hg2⟩ | hend
            · obtain ⟨lb2, elb, hlb2, hle⟩ := (hpsl.below hb8) (j + 1) 42 hst2
              cases elb
              have hj2 := (List.getElem?_eq_some_iff.1 hst2).1
              have dlt : decide ((j : Int) + 1 < (l.length : Int)) = true := decide_eq_true (by omega)
              have HR := Lib.hid (HX1.out hst2)
              clear hst2
              go_wp2_with (at_builtin; refine wpList_append_own_at _ rfl _ _ 54 rfl w5.heap.size 4 b0 (.bool false) 1 1 Tryd.underlying54 bi0 bz0 bz1 bz2 rfl (by decide) _ _ _ rfl (hO2.below ((Below.refl _ _).alloc (Nat.le_refl _) _)).2.2.1 ⟨w8.heap.size, 0, none⟩ 1 1 [.bool true] rfl rfl (cell_one_new _ _ _) ?c2 ?c3 ?c4 ?c5 ?_)
              case c2 => intro u hu; simp at hu; subst hu; rfl
              case c3 => unfold maxLen; omega
              case c4 => omega
              case c5 => simp; omega
              intro v3 w9 hown3 hg3 _ hat3
              have hO3 := (hO2.below ((Below.refl _ _).alloc (Nat.le_refl _) (.cells #[.bool true] 4))).appC hown3 hg3 (by simpa using hat3)
              have hb9 : Below w5.heap.size w5 w9 := below_app hb8 hO2.2.2.1 (Nat.le_refl _) hg3
              have hfin := HSN.out ⟨c, wl, true⟩ _ _ _ _ hO3
              clear hown3 hg3 hat3 hO2 hb8 hO3 hle
              go_wp2_with fail
              go_roundw
              case rel => exact ⟨j + 2, ps ++ [⟨c, wl, true⟩], by omega, by simp; omega, by go_num, ⟨_, HR.out⟩, hfin, hb9⟩
              case measure => simp [intOf]; omega
            · obtain ⟨lb2, elb, hlb2, hle⟩ := (hpsl.below hb8) (j + 1) g hg
              cases elb
              have hj2 := (List.getElem?_eq_some_iff.1 hg).1
              have dlt : decide ((j : Int) + 1 < (l.length : Int)) = true := decide_eq_true (by omega)
              have eg : ((g : Int) == 42) = false := by rw [beq_eq_false_iff_ne]; omega
              have HR := Lib.hid (HX2.out (by rw [hg]; intro h; cases h; exact hg2 rfl))
              clear hg hg2
              go_wp2_with (at_builtin; refine wpList_append_own_at _ rfl _ _ 54 rfl w5.heap.size 4 b0 (.bool false) 1 1 Tryd.underlying54 bi0 bz0 bz1 bz2 rfl (by decide) _ _ _ rfl (hO2.below ((Below.refl _ _).alloc (Nat.le_refl _) _)).2.2.1 ⟨w8.heap.size, 0, none⟩ 1 1 [.bool false] rfl rfl (cell_one_new _ _ _) ?c2 ?c3 ?c4 ?c5 ?_)
              case c2 => intro u hu; simp at hu; subst hu; rfl
              case c3 => unfold maxLen; omega
              case c4 => omega
              case c5 => simp; omega
              intro v3 w9 hown3 hg3 _ hat3
              have hO3 := (hO2.below ((Below.refl _ _).alloc (Nat.le_refl _) (.cells #[.bool false] 4))).appC hown3 hg3 (by simpa using hat3)
              have hb9 : Below w5.heap.size w5 w9 := below_app hb8 hO2.2.2.1 (Nat.le_refl _) hg3
              have hfin := HSN.out ⟨c, wl, false⟩ _ _ _ _ hO3
              clear hown3 hg3 hat3 hO2 hb8 hO3 hle
              go_wp2_with fail
              go_roundw
              case rel => exact ⟨j + 1, ps ++ [⟨c, wl, false⟩], by omega, by simp; omega, by go_num, ⟨_, HR.out⟩, hfin, hb9⟩
              case measure => simp [intOf]; omega
            · have dlt : decide ((j : Int) + 1 < (l.length : Int)) = false := decide_eq_false (by omega)
              have HR := Lib.hid (HX2.out (by rw [List.getElem?_eq_none (by omega)]; intro h; cases h))
              clear hend
              go_wp2_with (at_builtin; refine wpList_append_own_at _ rfl _ _ 54 rfl w5.heap.size 4 b0 (.bool false) 1 1 Tryd.underlying54 bi0 bz0 bz1 bz2 rfl (by decide) _ _ _ rfl (hO2.below ((Below.refl _ _).alloc (Nat.le_refl _) _)).2.2.1 ⟨w8.heap.size, 0, none⟩ 1 1 [.bool false] rfl rfl (cell_one_new _ _ _) ?c2 ?c3 ?c4 ?c5 ?_)
              case c2 => intro u hu; simp at hu; subst hu; rfl
              case c3 => unfold maxLen; omega
              case c4 => omega
              case c5 => simp; omega
              intro v3 w9 hown3 hg3 _ hat3
              have hO3 := (hO2.below ((Below.refl _ _).alloc (Nat.le_refl _) (.cells #[.bool false] 4))).appC hown3 hg3 (by simpa using hat3)
              have hb9 : Below w5.heap.size w5 w9 := below_app hb8 hO2.2.2.1 (Nat.le_refl _) hg3
              have hfin := HSN.out ⟨c, wl, false⟩ _ _ _ _ hO3
              clear hown3 hg3 hat3 hO2 hb8 hO3
              go_wp2_with fail
              go_roundw
              case rel => exact ⟨j + 1, ps ++ [⟨c, wl, false⟩], by omega, by simp; omega, by go_num, ⟨_, HR.out⟩, hfin, hb9⟩
              case measure => simp [intOf]; omega
        · obtain rfl : i = l.length := by omega
          have hpe := HEND.out pl ps hst
          subst hpe
          have hpsn := hpsl'
          have hb7 := hbr
          obtain ⟨o1, o2, o3, _⟩ := hown
          obtain ⟨w7, hw7⟩ : ∃ x, x = wr := ⟨_, rfl⟩
          subst hw7
          obtain ⟨a1, c1, rfl, hcc1, hcm1, hr1⟩ := row_sl o1 rfl
          obtain ⟨a2, c2, rfl, hcc2, hcm2, hr2⟩ := row_sl o2 rfl
          obtain ⟨a3, c3, rfl, hcc3, hcm3, hr3⟩ := row_sl o3 rfl
          have hr1' := fun i q h => hr1 i _ (@charsV_at (patS p) i q h)
          have hssl7 := hssl.below hb7
          have hb17 := Bt hb15 hb7
          rw [charsV_len] at hcc1
          rw [wildsV_len] at hcc2
          rw [manysV_len] at hcc3
          rw [charsV_len, wildsV_len, manysV_len]
          have HAT1 := Lib.hid (fun i q h => @charsV_at (patS p) i q h)
          have HAT2 := Lib.hid (fun i q h => @wildsV_at (patS p) i q h)
          have HAT3 := Lib.hid (fun i q h => @manysV_at (patS p) i q h)
          have hple := @patS_le p
          have HPS := Lib.hid hple
          generalize charsV (patS p) = r1 at *
          generalize wildsV (patS p) = r2 at *
          generalize manysV (patS p) = r3 at *
          generalize hqs : patS p = qs at *
          have hrow0 := row_end w7 t.length false t rfl
          have hfz0 := (World.rowIs_made w7 (.bool false) (t.length + 1) 4).frozen t.length
          have hc0 := (World.rowIs_made w7 (.bool false) (t.length + 1) 4).cell (i := t.length) (by omega)
          unfold maxLen at hcm1 hcm2 hcm3
          have hqz : qs.length ≤ 16777216 := by omega
          clear HSTEP HEND o1 o2 o3 hr1' hple hqs hpsl hssl HPLE hst hbr hpsl' hil
          go_wp2_with fail
          go_loopw [17, 18] (fun v x wr => ∃ j g : Nat, j ≤ qs.length ∧ x = .int .i64 ((j : Int) - 1) ∧ v = .slice (some ⟨g, 0, none⟩) (t.length + 1) (t.length + 1) ∧ wr.rowIs g 4 (t.length + 1) (boolsF fun q => langB false (qs.drop j) (t.drop q)) ∧ w7.heap.size ≤ g ∧ Below w7.heap.size w7 wr) (fun _ x _ => (intOf x + 1).toNat)
          case atStart => exact ⟨qs.length, w7.heap.size, Nat.le_refl _, rfl, rfl, by rw [List.drop_of_length_le (Nat.le_refl _)]; exact hrow0, Nat.le_refl _, (Below.refl _ _).alloc (Nat.le_refl _) _⟩
          case round =>
            obtain ⟨j, g, hjl, rfl, rfl, hr, hgw, hbr⟩ := hrel
            clear hrow0 hfz0 hc0
            cases j with
            | zero =>
              have hc := hr.cell (i := 0) (by omega)
              have hv : boolsF (fun q => langB false (qs.drop 0) (t.drop q)) 0 = .bool (simpleB p s) := by
                show Value.bool (langB false qs t) = _
                rw [HV.out]
              rw [hv] at hc
              have hb6 := Bt hb17 hbr
              clear hv hr
              go_wp2_with fail
              go_ret
              exact ⟨rfl, hb6⟩
            | succ j =>
              have hj1 : ((j + 1 : Nat) : Int) - 1 = (j : Int) := by omega
              rw [hj1]
              clear hj1
              obtain ⟨q, hq⟩ : ∃ q, qs[j]? = some q := ⟨_, List.getElem?_eq_getElem (by omega)⟩
              have hqm := HPS.out q (List.mem_of_getElem? hq)
              have hdrop : qs.drop j = q :: qs.drop (j + 1) := drop_of hq
              have hq1 := HAT1.out j q hq
              have hq2 := HAT2.out j q hq
              have hq3 := HAT3.out j q hq
              generalize qs.drop (j + 1) = ps at *
              have HDROP := Lib.hid hdrop
              have HQ1 := Lib.hid hq1
              have HQ2 := Lib.hid hq2
              have HQ3 := Lib.hid hq3
              have hrn := World.rowIs_made wr (.bool false) (t.length + 1) 4
              have hra := hr.alloc (.cells (madeCells #[.bool false] (t.length + 1)) 4)
              have hbr2 := hbr.alloc hbr.size (.cells (madeCells #[.bool false] (t.length + 1)) 4)
              have hgl := hr.lt
              have hwr := hbr.size
              clear hdrop hq hq1 hq2 hq3
              go_wp2_with fail
              generalize hw3 : wr.alloc (.cells (madeCells #[.bool false] (t.length + 1)) 4) = w6 at *
              generalize hgn : wr.heap.size = gn at *
              have hgg : g ≠ gn := by omega
              have hsz3 : gn < w6.heap.size := hrn.lt
              have hg7 : w7.heap.size ≤ gn := hwr
              clear hw3 hgn hr hbr
              go_loopw [20] (fun x wi => ∃ K : Nat, K ≤ t.length + 1 ∧ x = .int .i64 ((K : Int) - 1) ∧ wi.rowIs gn 4 (t.length + 1) (boolsF (rowTo false (q :: ps) t K)) ∧ w6.grownBy wi (some gn)) (fun x _ => (intOf x + 1).toNat)
              case atStart => exact ⟨t.length + 1, Nat.le_refl _, by congr 1; omega, hrn.congr (fun q hq => by
                show _ = Value.bool (if t.length + 1 ≤ q then _ else _)
                rw [if_neg (by omega)]), grown_refl _ _⟩
              case round =>
                obtain ⟨K, hK, rfl, hri, hgi⟩ := hrel
                have hgi2 := hgi.size
                cases K with
                | zero =>
                  have hb7 : Below w7.heap.size w7 wr := hbr2.grown hgi hbr2.size (fun j hj => by cases hj; omega)
                  have hr7 : wr.rowIs gn 4 (t.length + 1) (boolsF fun q => langB false (qs.drop j) (t.drop q)) := hri.congr fun q _ => by
                    show Value.bool (if 0 ≤ q then _ else _) = _
                    rw [if_pos (Nat.zero_le _), ← HDROP.out]; rfl
                  clear hri hgi hra hrn hbr2 hmk
                  go_wp2_with fail
                  go_roundw
                  case rel => exact ⟨j, gn, by omega, rfl, rfl, hr7, by omega, hb7⟩
                  case measure => simp [intOf]
                | succ K =>
                  have hK1 : ((K + 1 : Nat) : Int) - 1 = (K : Int) := by omega
                  rw [hK1]
                  clear hK1
                  have hrg := rowIs_far hra hgi (by simp; exact hgg)
                  have cg := hrg.cell (i := K) (by omega)
                  obtain ⟨x1, rfl, hx1, hcx1⟩ := (hr1.mid hbr2 hgi hg7) j _ HQ1.out
                  obtain ⟨x2, rfl, hx2, hcx2⟩ := (hr2.mid hbr2 hgi hg7) j _ HQ2.out
                  obtain ⟨x3, rfl, hx3, hcx3⟩ := (hr3.mid hbr2 hgi hg7) j _ HQ3.out
                  obtain ⟨ch, wild, many⟩ := q
                  simp only at hcx1 hcx2 hcx3 hqm
                  have hcn := hri.cell (i := K) (by omega)
                  have hfin := fun w' v h hv => @rowTo_set w' gn (t.length + 1) K 4 false (⟨ch, wild, many⟩ :: ps) t v h hv
                  have HFIN := Lib.hid hfin
                  have e0 : boolsF (fun q => langB false ps (t.drop q)) K = .bool (langB false ps (t.drop K)) := rfl
                  rw [e0] at cg
                  clear hfin e0 hmk
                  by_cases hKm : K < t.length
                  · obtain ⟨d, hd⟩ : ∃ d, t[K]? = some d := ⟨_, List.getElem?_eq_getElem hKm⟩
                    obtain ⟨tb, rfl, htb, htc⟩ := ((hssl7.below hbr2).grown hgi ((hssl7.below hbr2).ne (f := fun _ => false) hrn)) K d hd
                    have hdm := HCLE.out d (List.mem_of_getElem? hd)
                    have hdk := drop_of hd
                    have cg1 := hrg.cell (i := K + 1) (by omega)
                    have e1 : boolsF (fun q => langB false ps (t.drop q)) (K + 1) = .bool (langB false ps (t.drop (K + 1))) := rfl
                    rw [e1] at cg1
                    have cn1 := hri.cell (i := K + 1) (by omega)
                    have e2 : boolsF (rowTo false (⟨ch, wild, many⟩ :: ps) t (K + 1)) (K + 1) = .bool (langB false (⟨ch, wild, many⟩ :: ps) (t.drop (K + 1))) := by
                      show Value.bool (if K + 1 ≤ K + 1 then _ else _) = _
                      rw [if_pos (Nat.le_refl _)]
                    rw [e2] at cn1
                    have hv1 : many = true → langB false (⟨ch, wild, many⟩ :: ps) (t.drop K) = (langB false ps (t.drop K) || ((wild || decide (ch = d)) && langB false (⟨ch, wild, many⟩ :: ps) (t.drop (K + 1)))) := fun hm => by
                      rw [hdk, langB_star_cons false ps _ hm, ← hdk]
                      simp [standsB]
                    have hv2 : many = false → langB false (⟨ch, wild, many⟩ :: ps) (t.drop K) = ((wild || decide (ch = d)) && langB false ps (t.drop (K + 1))) := fun hm => by
                      rw [hdk, langB_one_cons false ps _ hm]
                      simp [standsB]
                    have HV1 := Lib.hid hv1
                    have HV2 := Lib.hid hv2
                    have hKt : (K : Int) < (t.length : Int) := by omega
                    have d1 : decide ((K : Int) < (t.length : Int)) = true := decide_eq_true hKt
                    have ecd : ((ch : Int) == (d : Int)) = decide (ch = d) := by rw [Bool.eq_iff_iff]; simp; omega
                    clear hv1 hv2 hdk e1 e2 hd hKm hra hrn
                    generalize langB false ps (t.drop K) = x at *
                    generalize langB false ps (t.drop (K + 1)) = y at *
                    generalize langB false (⟨ch, wild, many⟩ :: ps) (t.drop (K + 1)) = z at *
                    generalize decide (ch = d) = cd at *
                    go_upto_region 29 with (fail)
                    go_cut [21] (fun v wx => ∃ nq, v = .bool (wild || cd) ∧ wx = wr.drewN nq)
                    case first =>
                      clear hcn hri hgi cg cg1 cn1 hrg HV1 HV2 HFIN HQ1 HQ2 HQ3 HDROP hcx3
                      cases wild with
                      | true =>
                        go_quiet (fail)
                        go_wp2_with fail
                        go_meet
                        exact ⟨_, rfl, rfl⟩
                      | false =>
                        go_quiet (fail)
                        go_wp2_with fail
                        go_meet
                        exact ⟨_, rfl, rfl⟩
                    case rest =>
                      obtain ⟨nq, rfl, rfl⟩ := hcut
                      have hri2 : (wr.drewN nq).rowIs gn 4 (t.length + 1) (boolsF (rowTo false (⟨ch, wild, many⟩ :: ps) t (K + 1))) := hri
                      have hgi2' : w6.grownBy (wr.drewN nq) (some gn) := ⟨hgi.os, hgi.tape, hgi.output, hgi.size, hgi.block⟩
                      have cg' : (wr.drewN nq).cell? ⟨g, K, none⟩ = some (.bool x) := cg
                      have cg1' : (wr.drewN nq).cell? ⟨g, K + 1, none⟩ = some (.bool y) := cg1
                      have cn1' : (wr.drewN nq).cell? ⟨gn, K + 1, none⟩ = some (.bool z) := cn1
                      have hcx3' : (wr.drewN nq).cell? ⟨x3, j, none⟩ = some (.bool many) := hcx3
                      have hx3' : x3 < (wr.drewN nq).heap.size := hx3
                      have hcn' : (wr.drewN nq).cell? ⟨gn, K, none⟩ = some (boolsF (rowTo false (⟨ch, wild, many⟩ :: ps) t (K + 1)) K) := hcn
                      clear hcn hri hgi cg cg1 cn1 hrg hcx3 hcx2 hcx1 htc hgi2
                      generalize wr.drewN nq = w9 at *
                      have hfz := hri2.frozen K
                      have HSET := Lib.hid (fun u => hri2.set K u)
                      have HGS := Lib.hid (fun u => only_setCell hgi2' (p := ⟨gn, K, none⟩) (.inl rfl) u)
                      generalize hfit : (wild || cd) = fit at *
                      clear hri2 hfit
                      cases many with
                      | true =>
                        have HV3 := Lib.hid (HV1.out rfl)
                        cases x <;> cases fit
                        all_goals
                          go_wp2_with fail
                          go_roundw
                          case rel => exact ⟨K, by omega, rfl, HFIN.out _ _ (HSET.out _) (by rw [HV3.out]; rfl), HGS.out _⟩
                          case measure => simp [intOf]
                      | false =>
                        have HV3 := Lib.hid (HV2.out rfl)
                        cases fit
                        all_goals
                          go_wp2_with fail
                          go_roundw
                          case rel => exact ⟨K, by omega, rfl, HFIN.out _ _ (HSET.out _) (by rw [HV3.out]; rfl), HGS.out _⟩
                          case measure => simp [intOf]
                  · obtain rfl : K = t.length := by omega
                    have hv1 : many = true → langB false (⟨ch, wild, many⟩ :: ps) (t.drop t.length) = langB false ps (t.drop t.length) := fun hm => by
                      rw [List.drop_of_length_le (Nat.le_refl _), langB_star_end false ps _ hm]
                    have hv2 : many = false → langB false (⟨ch, wild, many⟩ :: ps) (t.drop t.length) = false := fun hm => by
                      rw [List.drop_of_length_le (Nat.le_refl _), langB_one_end false ps _ hm]
                    generalize langB false ps (t.drop t.length) = x at *
                    have HV1 := Lib.hid hv1
                    have HV2 := Lib.hid hv2
                    have d1 : decide ((t.length : Int) < (t.length : Int)) = false := decide_eq_false (by omega)
                    clear hv1 hv2 hKm hra hrn
                    go_upto_region 29 with (fail)
                    go_cut [21] (fun v wx => ∃ nq, v = .bool false ∧ wx = wr.drewN nq)
                    case first =>
                      clear hcn hri hgi cg hrg HV1 HV2 HFIN HQ1 HQ2 HQ3 HDROP hcx3
                      go_quiet (fail)
                      go_wp2_with fail
                      go_meet
                      exact ⟨_, rfl, rfl⟩
                    case rest =>
                      obtain ⟨nq, rfl, rfl⟩ := hcut
                      have hri2 : (wr.drewN nq).rowIs gn 4 (t.length + 1) (boolsF (rowTo false (⟨ch, wild, many⟩ :: ps) t (t.length + 1))) := hri
                      have hgi2' : w6.grownBy (wr.drewN nq) (some gn) := ⟨hgi.os, hgi.tape, hgi.output, hgi.size, hgi.block⟩
                      have cg' : (wr.drewN nq).cell? ⟨g, t.length, none⟩ = some (.bool x) := cg
                      have hcx3' : (wr.drewN nq).cell? ⟨x3, j, none⟩ = some (.bool many) := hcx3
                      have hx3' : x3 < (wr.drewN nq).heap.size := hx3
                      have hcn' : (wr.drewN nq).cell? ⟨gn, t.length, none⟩ = some (boolsF (rowTo false (⟨ch, wild, many⟩ :: ps) t (t.length + 1)) t.length) := hcn
                      clear hcn hri hgi cg hrg hcx3 hcx2 hcx1 hgi2
                      generalize wr.drewN nq = w9 at *
                      have hfz := hri2.frozen t.length
                      have HSET := Lib.hid (fun u => hri2.set t.length u)
                      have HGS := Lib.hid (fun u => only_setCell hgi2' (p := ⟨gn, t.length, none⟩) (.inl rfl) u)
                      clear hri2
                      cases many with
                      | true =>
                        have HV3 := Lib.hid (HV1.out rfl)
                        cases x
                        all_goals
                          go_wp2_with fail
                          go_roundw
                          case rel => exact ⟨t.length, by omega, rfl, HFIN.out _ _ (HSET.out _) (by rw [HV3.out]), HGS.out _⟩
                          case measure => simp [intOf]
                      | false =>
                        have HV3 := Lib.hid (HV2.out rfl)
                        go_wp2_with fail
                        go_roundw
                        case rel => exact ⟨t.length, by omega, rfl, HFIN.out _ _ (HSET.out _) (by rw [HV3.out]), HGS.out _⟩
                        case measure => simp [intOf]
    · have HV := Lib.hid (simpleB_bad p s hi)
      have d3 : decide ((0 : Int) ≤ (i : Int)) = true := decide_eq_true (by omega)
      clear hpown5 hi hok
      go_wp2_with fail
      go_ret
      exact ⟨ret_bool HV.out.symm, hb15⟩
  · have HV := Lib.hid (simpleB_no (s := s) (by rw [Bool.eq_false_iff]; exact fun h => hk0 (hiff.2 h)))
    have e3 : ((k0 : Int) != 0) = true := by rw [bne_iff_ne]; omega
    clear hpown5 hiff
    rcases hcs with ⟨hn, v6, rfl, hown⟩ | ⟨i, hi, a3, rfl⟩
    all_goals
      first | clear hn hown | clear hi
      go_wp2_with fail
      go_ret
      exact ⟨ret_bool HV.out.symm, hb15⟩
end Go.Proofs.YtlnnimmiifdnnaaDoor
