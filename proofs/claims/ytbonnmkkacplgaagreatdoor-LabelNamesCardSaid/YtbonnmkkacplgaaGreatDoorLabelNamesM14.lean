/- puny.Decode with a mark. -/
import Derived.Test.YtbonnmkkacplgaaGreatDoorLabelNamesM13
import Derived.Test.YtbonnmkkacplgaaGreatDoorLabelNamesM9
import Derived.Test.YtbonnmkkacplgaaGreatDoorLabelNamesM8

namespace Go.Proofs.YtbonnmkkacplgaaGreatDoor
open Go.RowKit

theorem byteAt_pre (s : ByteArray) (L j : Nat) (h : j < L) (hL : L ≤ s.size) : byteAt (s.extract 0 L) j = byteAt s j := by
  unfold byteAt
  rw [Lib.extract_data]
  simp [List.getD, List.getElem?_take, h]
theorem lastK_pos (s : ByteArray) : ∀ k, 0 < lastK s k → lastK s k < k := by
  intro k
  induction k with
  | zero => intro h; exact absurd (show 0 < 0 from h) (Nat.lt_irrefl 0)
  | succ k ih =>
    intro h
    have := lastK_lt s k
    unfold lastK at h ⊢
    split at h
    · rw [if_pos (by assumption)]; omega
    · rw [if_neg (by assumption)]; omega
theorem high_end {s : ByteArray} {k : Nat} : highF s 0 k = none := rfl
set_option maxHeartbeats 12800000 in
set_option maxRecDepth 100000 in
theorem puny_Decode1 (s : ByteArray) (w : World) (hs : s.size ≤ 1024) (hI0 : 0 < Lib.lastIndexByte s 45) : Calls Tryz.prog 76 #[.string s] w (DecPost s w) := by
  have hlk : lastK s s.size = (Lib.lastIndexByte s 45).toNat := lastK_idx s s.size (Nat.le_refl _)
  obtain ⟨L, hL⟩ : ∃ L : Nat, L = lastK s s.size := ⟨_, rfl⟩
  have hLI : Lib.lastIndexByte s 45 = (L : Int) := by omega
  have hL0 : 0 < L := by omega
  have hLs : L < s.size := by rw [hL]; exact lastK_pos s _ (by omega)
  have hhi := fun j (h : highF s L 0 = some j) => decE_high (s := s) (j := j) (by omega) (by rw [← hL]; exact h)
  have hlo := fun (h : highF s L 0 = none) => decE_low (s := s) (by omega) (by rw [← hL]; exact h)
  rw [← hL] at hlo
  have HHI := Lib.hid hhi
  have HLO := Lib.hid hlo
  have cI' := fun W => Tryz.strings_LastIndexByte s 45 (by omega) W
  rw [hLI] at cI'
  have cI := Lib.hid cI'
  have hst : Below w.heap.size w (w.alloc (.cells #[.string s, .int .i64 0, .int .i64 72] 133)) := (Below.refl _ _).alloc (Nat.le_refl _) _
  have hrd0 : RdP (w.alloc (.cells #[.string s, .int .i64 0, .int .i64 72] 133)) w.heap.size s 0 72 := heap_alloc_new w _
  have HRD0 := Lib.hid hrd0
  have HBE0 := Lib.hid hst
  have hsx : (s.extract 0 L).size = L := by simp; omega
  have hLsI : (L : Int) ≤ (s.size : Int) := by omega
  have hxb := fun j h => byteAt_pre s L j h (by omega)
  have HXB := Lib.hid hxb
  clear hlk hst hrd0 hLI hI0 cI' hhi hlo hxb hL
  go_enter Tryz.func76, Tryz.ntmps76
  go_wp2_with fail
  refine (cI.out _).mono ?_
  rintro e w2 ⟨rfl, hw2⟩
  obtain rfl := hw2.symm
  go_wp2_with ((with_reducible refine wpList_bytes (o := ⟨some 28, _, _, _, _, _⟩) rfl 9 32 5 _ rfl (s.extract 0 L) rfl Tryz.underlying9 Tryz.underlying32 Tryz.underlying5 ?_); intro cap w3 hcap hB hb3 hsz3)
  have hbe3 := HBE0.out.trans (hb3.mono HBE0.out.size)
  have hrd3 := HRD0.out.below hb3
  simp only [World.size_alloc] at hB hsz3
  rw [hsx] at hcap
  generalize s.extract 0 L = X at *
  have HB3 := Lib.hid hbe3
  have HRD3 := Lib.hid hrd3
  clear hb3 hbe3 hrd3
  go_loopw [2, 30] (fun v x wr => ∃ i : Nat, i ≤ L ∧ x = .int .i64 i ∧ OwnN wr w3.heap.size v (headN s i) ∧ highF s (L - i) i = highF s L 0 ∧ Below w3.heap.size w3 wr) (fun _ x _ => L - (intOf x).toNat)
  case atStart => exact ⟨0, Nat.zero_le _, rfl, World.ownsRow_nil _ _ _ _, rfl, Below.refl _ _⟩
  case round =>
    obtain ⟨i, hil, rfl, hown, hh, hbr⟩ := hrel
    have hsz := hbr.size
    by_cases hlt : i < L
    · have hc := (hB.below hbr (by omega)).byte (k := i) (by omega)
      rw [HXB.out i hlt] at hc
      have hr1 : L - i = (L - (i + 1)) + 1 := by omega
      rw [hr1] at hh
      have hhit := fun h => (high_hit (s := s) (r := L - (i + 1)) (k := i) h).symm.trans hh
      have hnx := fun h => (high_next (s := s) (r := L - (i + 1)) (k := i) h).symm.trans hh
      have hsu := headN_succ s i
      have hdl := headN_len s i
      generalize byteAt s i = c at *
      have hc256 := c.toNat_lt
      have HH := Lib.hid hhit
      have HN := Lib.hid hnx
      have HSU := Lib.hid hsu
      have HOW := Lib.hid hown
      have HBR := Lib.hid hbr
      obtain ⟨va, vc, hvv⟩ := row_len hown
      rw [hdl] at hvv
      subst hvv
      clear hhit hnx hsu hown hh hbr hr1
      by_cases h128 : 128 ≤ c.toNat
      · have HE := Lib.hid (HHI.out i (HH.out h128).symm)
        have hcI : (c.toNat : Int) ≥ 128 := by omega
        have HBEX := Lib.hid (HB3.out.trans (HBR.out.mono HB3.out.size))
        go_wp2_with fail
        refine (api_Fail' 11 _ _).mono ?_
        rintro e w9 ⟨q, rfl, hq, hb9⟩
        have hbE := HBEX.out.trans (hb9.mono HBEX.out.size)
        go_wp2_with fail
        go_ret2
        exact ⟨hbE, .inl ⟨11, i, q, HE.out, by decide, rfl, by simpa using hq⟩⟩
      · have hcI : ¬ (c.toNat : Int) ≥ 128 := by omega
        have hbf : Below wr.heap.size wr (wr.alloc (.cells #[.int .i64 (c.toNat : Int)] 3)) := (Below.refl _ _).alloc (Nat.le_refl _) _
        have hown2 := HOW.out.below hbf
        have hy : (wr.alloc (.cells #[.int .i64 (c.toNat : Int)] 3)).heap[wr.heap.size]? = some (.cells #[intV c.toNat] 3 (0, 0)) := heap_alloc_new wr _
        go_wp2_with (at_builtin; refine wpList_app_nat rfl _ _ rfl w3.heap.size _ _ rfl hown2 wr.heap.size 1 c.toNat rfl hy (by omega) (by simp; omega) ?_)
        intro v4 w4 hown4 hg4
        have hb4 := hown2.under (HBR.out.trans (hbf.mono HBR.out.size)) (Nat.le_refl _) hg4
        rw [← HSU.out] at hown4
        have HN2 := Lib.hid (HN.out h128)
        clear hown2 hbf hy hg4
        go_wp2_with fail
        go_roundw
        case rel => exact ⟨i + 1, by omega, by simp, by first | exact hown4 | (rw [hsz3]; exact hown4), HN2.out, by first | exact hb4 | (rw [hsz3]; exact hb4)⟩
        case measure => have : ((i : Int) + 1).toNat = i + 1 := by omega
                        simp only [intOf] at *; omega
    · obtain rfl : i = L := by omega
      have hLo := HLO.out (by rw [← hh, Nat.sub_self]; rfl)
      have HDD := Lib.hid hLo
      have hrdr := HRD3.out.below hbr
      have hrdX := hrdr.setA (i + 1)
      have hltb := lt_of_block hrdr
      have hbeX := (HB3.out.trans (hbr.mono HB3.out.size)).setCell (show w.heap.size ≤ (⟨w.heap.size, 1, none⟩ : Addr).block from Nat.le_refl _) (.int .i64 (((i + 1 : Nat) : Int)))
      have hownX := (hown.base' (base' := w.heap.size + 1) (by omega)).grown (grown_set (grown_self _ _) 1 (.int .i64 (((i + 1 : Nat) : Int)))) (show w.heap.size < w.heap.size + 1 by omega)
      have dl : 256 < i → decD s i = .error (15, i + 1) := fun h => by rw [dec_long h, if_pos hL0]
      have ds : ¬ 256 < i → decD s i = decF s s.size ⟨i + 1, 128, 0, 72, true, headN s i⟩ := fun h => by rw [dec_short h, if_pos hL0]
      have hA : i + 1 ≤ s.size := by omega
      obtain ⟨b0, b1, b2⟩ := hrdr.cells
      have fr := hrdr.frozen 1
      have e1 : (((i + 1 : Nat) : Int)) = (i : Int) + 1 := by simp
      rw [e1] at hrdX hbeX hownX
      generalize i + 1 = A at *
      have HRDX := Lib.hid hrdX
      have HBEX := Lib.hid hbeX
      have HOWN := Lib.hid hownX
      clear hrdX hbeX hownX hLo hrdr hown hbr hh e1
      have hdl := headN_len s i
      obtain ⟨va, vc, hvv⟩ := row_len HOWN.out
      rw [hdl] at hvv
      subst hvv
      obtain ⟨c0, c1, c2⟩ := HRDX.out.cells
      have f1 := HRDX.out.frozen 1
      have HL := Lib.hid dl
      have HS := Lib.hid ds
      clear dl ds
      by_cases hL256 : 256 < i
      · have HE := Lib.hid (HDD.out.trans (HL.out hL256))
        have hI : (i : Int) > 256 := by omega
        clear hL256
        go_wp2_with fail
        refine (api_Fail' 15 _ _).mono ?_
        rintro e w9 ⟨q, rfl, hq, hb9⟩
        have hbE := HBEX.out.trans (hb9.mono HBEX.out.size)
        go_wp2_with fail
        go_ret2
        exact ⟨hbE, .inl ⟨15, _, q, HE.out, by decide, rfl, by simpa using hq⟩⟩
      have hI : ¬ (i : Int) > 256 := by omega
      have HDF := Lib.hid (HDD.out.trans (HS.out hL256))
      have hL2 : (headN s i).length ≤ 256 := by omega
      clear hL256 hdl
      go_wp2_with fail
      go_loopw [2, 8, 9, 10] (fun v x y z wr => ∃ (f : Nat) (u : DSt), x = .int .i64 u.n ∧ y = .int .i64 u.place ∧ z = .bool u.first ∧ u.a ≤ s.size ∧ s.size ≤ u.a + f ∧ u.n ≤ 1114111 ∧ u.place ≤ 257 ∧ u.bias ≤ 1000000000000 ∧ u.out.length ≤ 256 ∧ decF s f u = decF s s.size ⟨A, 128, 0, 72, true, headN s i⟩ ∧ OwnN wr (w.heap.size + 1) v u.out ∧ RdP wr w.heap.size s u.a u.bias ∧ Below w.heap.size w wr) (fun v _ _ _ _ => 300 - lenV v)
      case atStart => exact ⟨s.size, ⟨A, 128, 0, 72, true, headN s i⟩, rfl, rfl, rfl, hA, by dsimp only; omega, by dsimp only; omega, by dsimp only; omega, by dsimp only; omega, hL2, rfl, HOWN.out, HRDX.out, HBEX.out⟩
      case round =>
        obtain ⟨f, u, rfl, rfl, rfl, hua, huf, hun, hup, hub, huo, hgo, hown, hrd, hbe⟩ := hrel
        obtain ⟨a1, cp1, hv1⟩ := row_len hown
        subst hv1
        obtain ⟨c0, c1, c2⟩ := hrd.cells
        have HBE := Lib.hid hbe
        have HRD := Lib.hid hrd
        have HOW := Lib.hid hown
        have hws := hbe.size
        have hwB : w.heap.size + 1 ≤ wr.heap.size := by have := lt_of_block hrd; omega
        by_cases hlt : u.a < s.size
        · have hltI : (u.a : Int) < (s.size : Int) := by omega
          obtain ⟨f', rfl⟩ : ∃ f', f = f' + 1 := ⟨f - 1, by omega⟩
          have cN := Lib.hid (reader_number w.heap.size u.a u.bias s wr hrd (by omega) hua hub)
          have hde := fun e h => dec_err (f := f') (e := e) hlt h
          have hdb := fun i t h => dec_bad (f := f') (i := i) (t := t) hlt h
          have hdm := fun i t h => dec_many (f := f') (i := i) (t := t) hlt h
          have hdn := fun i t h => dec_next (f := f') (i := i) (t := t) hlt h
          have HDE := Lib.hid hde
          have HDB := Lib.hid hdb
          have HDM := Lib.hid hdm
          have HDN := Lib.hid hdn
          have HGO := Lib.hid hgo
          clear hde hdb hdm hdn hgo hown hrd hbe
          go_wp2_with fail
          refine cN.out.mono ?_
          rintro e w3 ⟨hg3, h⟩
          have HB3 := Lib.hid (HBE.out.grown hg3 hws (fun j hj => by injection hj with hj; omega))
          have HO3 := Lib.hid (HOW.out.grown hg3 (by omega))
          have hs3 := hg3.size
          rcases h with ⟨k, j, q, hR, hk, rfl, hq⟩ | ⟨i, t, hR, rfl, hrd3⟩
          · have HE := Lib.hid (HDF.out.trans (HGO.out.symm.trans (HDE.out _ hR)))
            obtain ⟨qq, rfl⟩ := hq.ne_nil
            have HQ := Lib.hid hq
            clear hq hR hg3
            go_wp2_with fail
            go_ret2
            exact ⟨HB3.out, .inl ⟨k, j, _, HE.out, hk, rfl, HQ.out⟩⟩
          · have hbd := rdF_bounds s u.bias _ _ _ _ _ i t hR
            obtain ⟨d0, d1, d2⟩ := hrd3.cells
            have g2 := hrd3.frozen 2
            have HR3 := Lib.hid hrd3
            have hdm1 := HDB.out i t hR
            have hdm2 := HDM.out i t hR
            have hdm3 := HDN.out i t hR
            have hle : (u.place + i) / (u.out.length + 1) ≤ u.place + i := Nat.div_le_self _ _
            have hml : (u.place + i) % (u.out.length + 1) < u.out.length + 1 := Nat.mod_lt _ (by omega)
            have hdc : (((u.place + i) / (u.out.length + 1) : Nat) : Int) = ((u.place : Int) + (i : Int)) / ((u.out.length : Int) + 1) := by rw [Int.natCast_ediv]; simp
            have hmc : (((u.place + i) % (u.out.length + 1) : Nat) : Int) = ((u.place : Int) + (i : Int)) % ((u.out.length : Int) + 1) := by rw [Int.natCast_emod]; simp
            have hi2 := hbd.2.2
            have ht1 := hbd.1
            have ht2 := hbd.2.1
            have hdc0 : 0 ≤ ((u.place : Int) + (i : Int)) / ((u.out.length : Int) + 1) := by rw [← hdc]; exact Int.natCast_nonneg _
            have hdc1 : ((u.place : Int) + (i : Int)) / ((u.out.length : Int) + 1) ≤ 4000000000 := by rw [← hdc]; omega
            have hmc0 : 0 ≤ ((u.place : Int) + (i : Int)) % ((u.out.length : Int) + 1) := by rw [← hmc]; exact Int.natCast_nonneg _
            have hmc1 : ((u.place : Int) + (i : Int)) % ((u.out.length : Int) + 1) ≤ (u.out.length : Int) := by rw [← hmc]; omega
            have hnc : ((u.n + (u.place + i) / (u.out.length + 1) : Nat) : Int) = (u.n : Int) + ((u.place : Int) + (i : Int)) / ((u.out.length : Int) + 1) := by rw [Int.natCast_add, hdc]
            have cR := Lib.hid (fun W => puny_right ((u.n : Int) + ((u.place : Int) + (i : Int)) / ((u.out.length : Int) + 1)) W)
            rw [← hnc] at cR
            generalize hN : u.n + (u.place + i) / (u.out.length + 1) = N at *
            generalize hM : (u.place + i) % (u.out.length + 1) = M at *
            have HNC := Lib.hid hnc
            have HMC := Lib.hid hmc
            have HD1 := Lib.hid hdm1
            have HD2 := Lib.hid hdm2
            have HD3 := Lib.hid hdm3
            clear hdm1 hdm2 hdm3 hR hbd hdc hmc hnc hN hM hg3 hrd3 HDB HDM HDN HDE c0 c1 c2
            cases hr : rightB (N : Int) with
            | false =>
              have HE := Lib.hid (HDF.out.trans (HGO.out.symm.trans (HD1.out hr)))
              rw [hr] at cR
              clear hr
              go_wp2_with fail
              rw [← HNC.out]
              refine (cR.out _).mono ?_
              rintro e w5 ⟨rfl, hb5⟩
              obtain ⟨d0, d1, d2⟩ := (HR3.out.below hb5).cells
              have HB5 := Lib.hid (Bt HB3.out hb5)
              go_wp2_with fail
              refine (api_Fail' 16 _ _).mono ?_
              rintro e w9 ⟨q, rfl, hq, hb9⟩
              have hbE := HB5.out.trans (hb9.mono HB5.out.size)
              go_wp2_with fail
              go_ret2
              exact ⟨hbE, .inl ⟨16, t - 1, q, HE.out, by decide, rfl, by have := hq; rwa [show (t : Int) - 1 = ((t - 1 : Nat) : Int) by omega] at this⟩⟩
            | true =>
              rw [hr] at cR
              have hN1 : N ≤ 1114111 := by obtain ⟨c, hc, _, hc2⟩ := right_nat hr; omega
              by_cases hmany : 256 < u.out.length + 1
              · have HE := Lib.hid (HDF.out.trans (HGO.out.symm.trans (HD2.out hr hmany)))
                have hmI : (u.out.length : Int) + 1 > 256 := by omega
                clear hr hmany
                go_wp2_with fail
                rw [← HNC.out]
                refine (cR.out _).mono ?_
                rintro e w5 ⟨rfl, hb5⟩
                obtain ⟨d0, d1, d2⟩ := (HR3.out.below hb5).cells
                have HB5 := Lib.hid (Bt HB3.out hb5)
                go_wp2_with fail
                refine (api_Fail' 15 _ _).mono ?_
                rintro e w9 ⟨q, rfl, hq, hb9⟩
                have hbE := HB5.out.trans (hb9.mono HB5.out.size)
                go_wp2_with fail
                go_ret2
                exact ⟨hbE, .inl ⟨15, t - 1, q, HE.out, by decide, rfl, by have := hq; rwa [show (t : Int) - 1 = ((t - 1 : Nat) : Int) by omega] at this⟩⟩
              · have hmI : ¬ (u.out.length : Int) + 1 > 256 := by omega
                have hgo2 := (HD3.out hr hmany).symm.trans HGO.out
                have had := adaptN_le i (u.out.length + 1) u.first
                have cA' : ∀ W, Calls Tryz.prog 67 #[.int .i64 (i : Int), .int .i64 ((u.out.length : Int) + 1), .bool u.first] W fun e w' => e = .returned (.int .i64 ((adaptN i (u.out.length + 1) u.first : Nat) : Int)) ∧ W = w' := fun W => by
                  have := puny_Adapt (i : Int) ((u.out.length + 1 : Nat) : Int) u.first W (by omega) (by omega)
                  rw [adaptZ_nat _ _ _ (by omega)] at this
                  simpa using this
                have CA := Lib.hid cA'
                have HGO2 := Lib.hid hgo2
                generalize adaptN i (u.out.length + 1) u.first = ad at *
                clear hr hmany cA' hgo2
                go_wp2_with fail
                rw [← HNC.out]
                refine (cR.out _).mono ?_
                rintro e w5 ⟨rfl, hb5⟩
                have hb6 : Below w5.heap.size w5 (w5.alloc (.cells #[intV N] 3)) := (Below.refl _ _).alloc (Nat.le_refl _) _
                have HB6 := Lib.hid (Bt (Bt HB3.out hb5) hb6)
                have HO6 := Lib.hid ((HO3.out.below hb5).below hb6)
                have HR6 := Lib.hid ((HR3.out.below hb5).below hb6)
                have hs6 := (Bt hb5 hb6).size
                have hnew := heap_alloc_new w5 (.cells #[intV N] 3)
                have cI' := ints_Insert (w.heap.size + 1) (.slice a1 u.out.length cp1) u.out M N w5.heap.size _ HO6.out (by omega) (by omega) (by omega) hnew (fun e => by have := (World.ownsRow.lt (HO3.out.below hb5) _ e).2; omega)
                have CI := Lib.hid cI'
                clear cI' hnew hb5 hb6
                go_wp2_with fail
                rw [← HMC.out]
                refine CI.out.mono ?_
                rintro e w7 ⟨v7, rfl, hown7, hg7⟩
                have HB7 := Lib.hid (HB6.out.grown hg7 HB6.out.size (fun j hj => by have := (World.ownsRow.lt HO6.out j hj).1; omega))
                have hrd7 := HR6.out.grown HO6.out (by omega) hg7
                obtain ⟨d0, d1, d2⟩ := hrd7.cells
                have g2 := hrd7.frozen 2
                have HR7 := Lib.hid hrd7
                have HO7 := Lib.hid hown7
                clear hrd7 hown7 hg7
                go_wp2_with fail
                refine (CA.out _).mono ?_
                rintro e w8 ⟨rfl, hw8⟩
                obtain rfl := hw8
                have hsetB := HR7.out.setB ad
                have hbS := HB7.out.setCell (show w.heap.size ≤ (⟨w.heap.size, 2, none⟩ : Addr).block from Nat.le_refl _) (.int .i64 (ad : Int))
                have hoS := HO7.out.grown (grown_set (grown_self _ _) 2 (.int .i64 (ad : Int))) (show w.heap.size < w.heap.size + 1 by omega)
                have HSB := Lib.hid hsetB
                have HBS := Lib.hid hbS
                have HOS := Lib.hid hoS
                have hil := insL_len u.out M N (by omega)
                have HIL := Lib.hid hil
                clear hsetB hbS hoS hil
                go_wp2_with fail
                go_roundw
                case rel => exact ⟨f', ⟨t, N, M + 1, ad, false, insL u.out M N⟩, rfl, by simp, rfl, ht2, by dsimp only; omega, hN1, by dsimp only; omega, by dsimp only; omega, by have := HIL.out; dsimp only; omega, HGO2.out, HOS.out, HSB.out, HBS.out⟩
                case measure => have := HIL.out; obtain ⟨z1, z2, z3⟩ := row_len HO7.out; subst z3; simp only [lenV]; omega
        · have hltI : ¬ (u.a : Int) < (s.size : Int) := by omega
          rw [dec_end (by omega)] at hgo
          have HE := Lib.hid (HDF.out.trans hgo.symm)
          clear hgo hown hrd hbe
          go_wp2_with fail
          go_ret2
          exact ⟨HBE.out, .inr ⟨u.out, _, HE.out, rfl, HOW.out.base' (by omega)⟩⟩
end Go.Proofs.YtbonnmkkacplgaaGreatDoor

/- puny.Decode, of any text. -/
namespace Go.Proofs.YtbonnmkkacplgaaGreatDoor
open Go.RowKit

set_option maxHeartbeats 1600000 in
theorem puny_Decode (s : ByteArray) (w : World) : Calls Tryz.prog 76 #[.string s] w (DecPost s w) := by
  by_cases hs : s.size ≤ 1024
  · by_cases hI : 0 < Lib.lastIndexByte s 45
    · exact puny_Decode1 s w hs hI
    · exact puny_Decode0 s w hs (by omega)
  · have HE := Lib.hid (decE_long (s := s) (by omega))
    have hI : (s.size : Int) > 1024 := by omega
    clear hs
    go_enter Tryz.func76, Tryz.ntmps76
    go_wp2_with fail
    refine (api_Fail' 14 1024 _).mono ?_
    rintro e w9 ⟨q, rfl, hq, hb9⟩
    go_wp2_with fail
    go_ret2
    exact ⟨hb9, .inl ⟨14, 1024, q, HE.out, by decide, rfl, hq⟩⟩
end Go.Proofs.YtbonnmkkacplgaaGreatDoor

/- puny.Encode, of any numbers; the example of chapter 9's statements. -/
namespace Go.Proofs.YtbonnmkkacplgaaGreatDoor
open Go.RowKit

theorem enc_nil : encE [] = .ok [] := rfl
set_option maxHeartbeats 3200000 in
set_option maxRecDepth 100000 in
theorem puny_Encode0 (a : Option Addr) (cap : Nat) (w : World) : Calls Tryz.prog 36 #[.slice a 0 cap] w (EncPost [] w) := by
  have hbl : Bld (w.alloc (.cells #[.pointer none, .slice none 0 0] 83)) (w.heap.size + 1) w.heap.size [] := Bld.new rfl (heap_alloc_new w _) (by omega)
  have hst : Below w.heap.size w (w.alloc (.cells #[.pointer none, .slice none 0 0] 83)) := (Below.refl _ _).alloc (Nat.le_refl _) _
  have hszA : (w.alloc (.cells #[.pointer none, .slice none 0 0] 83)).heap.size = w.heap.size + 1 := World.size_alloc _ _
  have cL' : ∀ W, W = (w.alloc (.cells #[.pointer none, .slice none 0 0] 83)) → Calls Tryz.prog 62 #[.pointer (some ⟨w.heap.size, 0, none⟩)] W fun e w' => e = .returned (.int .i64 0) ∧ w' = W := fun W h => by subst h; exact bld_Len _ _ _ _ hbl
  have cL := Lib.hid (cL' _ rfl)
  have cC' : ∀ W, Calls Tryz.prog 63 #[.slice a 0 cap] W fun e w' => ∃ v c, e = .returned (.slice v 0 c) ∧ Below W.heap.size W w' := by
    intro W
    cases a with
    | none =>
      refine (Tryz.slices_Clone_int_nil 0 cap W).mono ?_
      rintro e w' ⟨he, rfl⟩
      exact ⟨none, 0, he, Below.refl _ _⟩
    | some ad =>
      refine (Tryz.slices_Clone_int_zero ad cap W).mono ?_
      rintro e w' ⟨v, he, hown, _, hb⟩
      obtain ⟨q, c, rfl⟩ : ∃ q c, v = .slice q 0 c := by
        rcases hown.2 with ⟨e0, _⟩ | ⟨g, cp, cur, e0, _⟩
        · exact ⟨none, 0, e0⟩
        · exact ⟨_, cp, e0⟩
      exact ⟨q, c, he, hb⟩
  have cC := Lib.hid cC'
  clear cC'
  have HBL := Lib.hid hbl
  have HST := Lib.hid hst
  clear cL' hbl hst
  go_enter Tryz.func36, Tryz.ntmps36
  go_wp2_with fail
  go_loopw [23] (fun i wr => i = .int .i64 0 ∧ (w.alloc (.cells #[.pointer none, .slice none 0 0] 83)) = wr) (fun _ _ => 0)
  case atStart => exact ⟨rfl, rfl⟩
  case round =>
    obtain ⟨rfl, rfl⟩ := hrel
    go_wp2_with fail
    refine cL.out.mono ?_
    rintro e w2 ⟨rfl, rfl⟩
    go_wp2_with fail
    refine (cC.out _).mono ?_
    rintro e w3 ⟨v, c, rfl, hb3⟩
    have HB3 := Lib.hid hb3
    clear hb3
    go_wp2_with fail
    refine (Tryz.slices_Sort_int_none v c w3).mono ?_
    rintro e w4 ⟨rfl, hw4⟩
    obtain rfl := hw4.symm
    go_wp2_with fail
    refine (Tryz.slices_Compact_int_empty v c w3).mono ?_
    rintro e w4 ⟨rfl, hw5⟩
    obtain rfl := hw5.symm
    go_wp2_with fail
    go_loopw [9, 10, 11, 12, 51] (fun _ _ _ _ i wr => i = .int .i64 0 ∧ w3 = wr) (fun _ _ _ _ _ _ => 0)
    case atStart => exact ⟨rfl, rfl⟩
    case round =>
      obtain ⟨rfl, rfl⟩ := hrel
      have hb := HST.out.trans (HB3.out.mono (by omega))
      have hsz := HB3.out.size
      have cT := Lib.hid (bld_String _ _ _ _ (HBL.out.below HB3.out) (by omega))
      have HB := Lib.hid hb
      clear hb
      go_wp2_with fail
      refine cT.out.mono ?_
      rintro e w8 ⟨rfl, hb8⟩
      have hbE := HB.out.trans hb8
      go_wp2_with fail
      go_ret2
      exact ⟨hbE, .inr ⟨[], enc_nil, rfl⟩⟩
theorem puny_Encode (x : Value) (zs : List Int) (w : World) (hx : IntsSl w x zs) (hz : zs.length ≤ 9223372036854775807) : Calls Tryz.prog 36 #[x] w (EncPost zs w) := by
  by_cases h0 : zs = []
  · subst h0
    obtain ⟨a, cap, rfl⟩ : ∃ a cap, x = .slice a 0 cap := by
      rcases hx with ⟨_, a, cap, e⟩ | ⟨b, off, cap, e, _⟩
      · exact ⟨a, cap, e⟩
      · exact ⟨_, _, e⟩
    exact puny_Encode0 a cap w
  · have hne : 0 < zs.length := by cases zs with | nil => exact absurd rfl h0 | cons _ _ => simp
    rcases hx with ⟨h, _⟩ | ⟨b, off, cap, rfl, hcap, hcm, hbw, hcell⟩
    · exact absurd h h0
    · by_cases hlong : 256 < zs.length
      · have HE := Lib.hid (encE_long hlong)
        have hlI : (zs.length : Int) > 256 := by omega
        clear hcell hlong
        go_enter Tryz.func36, Tryz.ntmps36
        go_wp2_with fail
        refine (api_Fail' 14 256 _).mono ?_
        rintro e w2 ⟨v, rfl, hv, hb⟩
        go_wp2_with fail
        go_ret2
        exact ⟨hb, .inl ⟨14, 256, v, HE.out, by decide, rfl, hv⟩⟩
      · exact puny_Encode1 b off cap zs w hne (by omega) hcap hcm hbw hcell
/-! ### The example -/
theorem ints_lit (w : World) (l : List Int) (n : Nat) (cs : Array Value) (h : cs = (l.map (Value.int .i64)).toArray) (hn : n = l.length) (hl : 0 < l.length) (hm : l.length ≤ 1000) : IntsSl (w.alloc (.cells cs 3)) (.slice (some ⟨w.heap.size, 0, none⟩) n n) l := by
  subst h hn
  refine .inr ⟨w.heap.size, 0, l.length, rfl, Nat.le_refl _, by unfold maxLen; omega, by simp, fun j hj => ?_⟩
  rw [World.cell?_alloc_at _ _ _ _ rfl]
  simp [List.getD, hj]
theorem sp09E : encE [98, 252, 99, 104, 101, 114] = .ok [98, 99, 104, 101, 114, 45, 107, 118, 97] := by
  rw [encE_ok (by decide) (by decide +kernel)]
  exact congrArg _ sp09
end Go.Proofs.YtbonnmkkacplgaaGreatDoor

/- What is read is characters, and not too many. -/
namespace Go.Proofs.YtbonnmkkacplgaaGreatDoor
open Go.RowKit

theorem insL_mem {l : List Nat} {i x c : Nat} (h : c ∈ insL l i x) : c ∈ l ∨ c = x := by
  unfold insL at h
  rcases List.mem_append.1 h with h | h
  · exact .inl (List.mem_of_mem_take h)
  · rcases List.mem_cons.1 h with h | h
    · exact .inr h
    · exact .inl (List.mem_of_mem_drop h)
theorem decF_facts (s : ByteArray) : ∀ (f : Nat) (u : DSt) (l : List Nat), decF s f u = .ok l → (∀ c ∈ u.out, rightB (c : Int) = true) → u.out.length ≤ 256 → (∀ c ∈ l, rightB (c : Int) = true) ∧ l.length ≤ 256 := by
  intro f
  induction f with
  | zero =>
    intro u l h h1 h2
    cases h
    exact ⟨h1, h2⟩
  | succ f ih =>
    intro u l h h1 h2
    by_cases ha : s.size ≤ u.a
    · rw [dec_end ha] at h
      cases h
      exact ⟨h1, h2⟩
    cases hR : rdN s u.a u.bias with
    | error e => rw [dec_err (by omega) hR] at h; cases h
    | ok it =>
      obtain ⟨i, t⟩ := it
      cases hr : rightB ((u.n + (u.place + i) / (u.out.length + 1) : Nat) : Int) with
      | false => rw [dec_bad (by omega) hR hr] at h; cases h
      | true =>
        by_cases hm : 256 < u.out.length + 1
        · rw [dec_many (by omega) hR hr hm] at h; cases h
        · rw [dec_next (by omega) hR hr hm] at h
          have hml : (u.place + i) % (u.out.length + 1) < u.out.length + 1 := Nat.mod_lt _ (by omega)
          refine ih _ l h (fun c hc => ?_) ?_
          · rcases insL_mem hc with hc | rfl
            · exact h1 c hc
            · exact hr
          · dsimp only
            rw [insL_len _ _ _ (by omega)]
            omega
theorem high_all (s : ByteArray) : ∀ r k, highF s r k = none → ∀ j, j < r → (byteAt s (k + j)).toNat < 128 := by
  intro r
  induction r with
  | zero => intro k _ j hj; omega
  | succ r ih =>
    intro k h j hj
    by_cases h1 : 128 ≤ (byteAt s k).toNat
    · rw [high_hit h1] at h; cases h
    · rw [high_next h1] at h
      cases j with
      | zero => rw [Nat.add_zero]; omega
      | succ j =>
        have := ih (k + 1) h j (by omega)
        rwa [show k + (j + 1) = k + 1 + j by omega]
theorem right_small {c : Nat} (h : c < 128) : rightB (c : Int) = true := (rightC_iff c).1 (.inl (by omega))
theorem decE_facts {s : ByteArray} {l : List Nat} (h : decE s = .ok l) : (∀ c ∈ l, rightB (c : Int) = true) ∧ l.length ≤ 256 := by
  by_cases hl : 1024 < s.size
  · rw [decE_long hl] at h; cases h
  cases hh : highF s (lastK s s.size) 0 with
  | some j => rw [decE_high hl hh] at h; cases h
  | none =>
    rw [decE_low hl hh] at h
    by_cases h2 : 256 < lastK s s.size
    · rw [dec_long h2] at h; cases h
    · rw [dec_short h2] at h
      refine decF_facts s _ _ l h (fun c hc => ?_) (by dsimp only; rw [headN_len]; omega)
      obtain ⟨j, hj, rfl⟩ := List.mem_map.1 hc
      have := high_all s _ _ hh j (List.mem_range.1 hj)
      rw [Nat.zero_add] at this
      exact right_small this
end Go.Proofs.YtbonnmkkacplgaaGreatDoor
