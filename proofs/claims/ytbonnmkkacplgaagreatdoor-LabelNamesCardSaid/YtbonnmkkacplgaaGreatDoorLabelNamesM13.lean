/- puny.Decode. -/
import Derived.Test.YtbonnmkkacplgaaGreatDoorLabelNamesM8
import Derived.Test.YtbonnmkkacplgaaGreatDoorLabelNamesM12

namespace Go.Proofs.YtbonnmkkacplgaaGreatDoor
open Go.RowKit

def lenV : Value → Nat
  | .slice _ n _ => n
  | _ => 0
set_option maxHeartbeats 12800000 in
set_option maxRecDepth 100000 in
theorem puny_Decode0 (s : ByteArray) (w : World) (hs : s.size ≤ 1024) (hI0 : Lib.lastIndexByte s 45 ≤ 0) : Calls Tryz.prog 76 #[.string s] w (DecPost s w) := by
  have hlk : lastK s s.size = 0 := by rw [lastK_idx s s.size (Nat.le_refl _)]; show (Lib.lastIndexByte s 45).toNat = 0; omega
  have hDD := decE_low (s := s) (by omega) (by rw [hlk]; rfl)
  rw [hlk] at hDD
  obtain ⟨L, hL⟩ : ∃ L : Nat, L = 0 := ⟨0, rfl⟩
  rw [← hL] at hDD
  have HDD := Lib.hid hDD
  have cI := Lib.hid (fun W => Tryz.strings_LastIndexByte s 45 (by omega) W)
  have hst : Below w.heap.size w (w.alloc (.cells #[.string s, .int .i64 0, .int .i64 72] 133)) := (Below.refl _ _).alloc (Nat.le_refl _) _
  have hrd0 : RdP (w.alloc (.cells #[.string s, .int .i64 0, .int .i64 72] 133)) w.heap.size s 0 72 := heap_alloc_new w _
  have HRDX := Lib.hid (show RdP (w.alloc (.cells #[.string s, .int .i64 0, .int .i64 72] 133)) w.heap.size s (if 0 < L then L + 1 else 0) 72 by rw [hL]; exact hrd0)
  have HBEX := Lib.hid hst
  have hown0 : OwnN (w.alloc (.cells #[.string s, .int .i64 0, .int .i64 72] 133)) (w.heap.size + 1) (.slice none 0 0) (headN s L) := by rw [hL]; exact World.ownsRow_nil _ _ _ _
  have HOWN := Lib.hid hown0
  generalize Lib.lastIndexByte s 45 = I at *
  clear hlk hDD hst hrd0 hown0
  go_enter Tryz.func76, Tryz.ntmps76
  go_wp2_with fail
  refine (cI.out _).mono ?_
  rintro e w2 ⟨rfl, hw2⟩
  obtain rfl := hw2.symm
  have hL256 : ¬ 256 < L := by omega
  have hdl := headN_len s L
  have HDF := Lib.hid (HDD.out.trans (dec_short hL256))
  have hA : (if 0 < L then L + 1 else 0) ≤ s.size := by split <;> omega
  have hL2 : (headN s L).length ≤ 256 := by omega
  clear hL256 hdl
  generalize (if 0 < L then L + 1 else 0) = A at *
  go_wp2_with fail
  go_loopw [2, 8, 9, 10] (fun v x y z wr => ∃ (f : Nat) (u : DSt), x = .int .i64 u.n ∧ y = .int .i64 u.place ∧ z = .bool u.first ∧ u.a ≤ s.size ∧ s.size ≤ u.a + f ∧ u.n ≤ 1114111 ∧ u.place ≤ 257 ∧ u.bias ≤ 1000000000000 ∧ u.out.length ≤ 256 ∧ decF s f u = decF s s.size ⟨A, 128, 0, 72, true, headN s L⟩ ∧ OwnN wr (w.heap.size + 1) v u.out ∧ RdP wr w.heap.size s u.a u.bias ∧ Below w.heap.size w wr) (fun v _ _ _ _ => 300 - lenV v)
  case atStart => exact ⟨s.size, ⟨A, 128, 0, 72, true, headN s L⟩, rfl, rfl, rfl, hA, by dsimp only; omega, by dsimp only; omega, by dsimp only; omega, by dsimp only; omega, hL2, rfl, HOWN.out, HRDX.out, HBEX.out⟩
  case round =>
    obtain ⟨f, u, rfl, rfl, rfl, hua, huf, hun, hup, hub, huo, hgo, hown, hrd, hbe⟩ := hrel
    obtain ⟨a1, cp1, hv1⟩ := row_len hown
    subst hv1
    obtain ⟨c0, c1, c2⟩ := hrd.cells
    have HBE := Lib.hid hbe
    have HRD := Lib.hid hrd
    have HOW := Lib.hid hown
    have hws := hbe.size
    have hwB : w.heap.size + 1 ≤ wr.heap.size := by have := lt_of_block hrd; omega
    by_cases hlt : u.a < s.size
    · have hltI : (u.a : Int) < (s.size : Int) := by omega
      obtain ⟨f', rfl⟩ : ∃ f', f = f' + 1 := ⟨f - 1, by omega⟩
      have cN := Lib.hid (reader_number w.heap.size u.a u.bias s wr hrd (by omega) hua hub)
      have hde := fun e h => dec_err (f := f') (e := e) hlt h
      have hdb := fun i t h => dec_bad (f := f') (i := i) (t := t) hlt h
      have hdm := fun i t h => dec_many (f := f') (i := i) (t := t) hlt h
      have hdn := fun i t h => dec_next (f := f') (i := i) (t := t) hlt h
      have HDE := Lib.hid hde
      have HDB := Lib.hid hdb
      have HDM := Lib.hid hdm
      have HDN := Lib.hid hdn
      have HGO := Lib.hid hgo
      clear hde hdb hdm hdn hgo hown hrd hbe
      go_wp2_with fail
      refine cN.out.mono ?_
      rintro e w3 ⟨hg3, h⟩
      have HB3 := Lib.hid (HBE.out.grown hg3 hws (fun j hj => by injection hj with hj; omega))
      have HO3 := Lib.hid (HOW.out.grown hg3 (by omega))
      have hs3 := hg3.size
      rcases h with ⟨k, j, q, hR, hk, rfl, hq⟩ | ⟨i, t, hR, rfl, hrd3⟩
      · have HE := Lib.hid (HDF.out.trans (HGO.out.symm.trans (HDE.out _ hR)))
        obtain ⟨qq, rfl⟩ := hq.ne_nil
        have HQ := Lib.hid hq
        clear hq hR hg3
        go_wp2_with fail
        go_ret2
        exact ⟨HB3.out, .inl ⟨k, j, _, HE.out, hk, rfl, HQ.out⟩⟩
      · have hbd := rdF_bounds s u.bias _ _ _ _ _ i t hR
        obtain ⟨d0, d1, d2⟩ := hrd3.cells
        have g2 := hrd3.frozen 2
        have HR3 := Lib.hid hrd3
        have hdm1 := HDB.out i t hR
        have hdm2 := HDM.out i t hR
        have hdm3 := HDN.out i t hR
        have hle : (u.place + i) / (u.out.length + 1) ≤ u.place + i := Nat.div_le_self _ _
        have hml : (u.place + i) % (u.out.length + 1) < u.out.length + 1 := Nat.mod_lt _ (by omega)
        have hdc : (((u.place + i) / (u.out.length + 1) : Nat) : Int) = ((u.place : Int) + (i : Int)) / ((u.out.length : Int) + 1) := by rw [Int.natCast_ediv]; simp
        have hmc : (((u.place + i) % (u.out.length + 1) : Nat) : Int) = ((u.place : Int) + (i : Int)) % ((u.out.length : Int) + 1) := by rw [Int.natCast_emod]; simp
        have hi2 := hbd.2.2
        have ht1 := hbd.1
        have ht2 := hbd.2.1
        have hdc0 : 0 ≤ ((u.place : Int) + (i : Int)) / ((u.out.length : Int) + 1) := by rw [← hdc]; exact Int.natCast_nonneg _
        have hdc1 : ((u.place : Int) + (i : Int)) / ((u.out.length : Int) + 1) ≤ 4000000000 := by rw [← hdc]; omega
        have hmc0 : 0 ≤ ((u.place : Int) + (i : Int)) % ((u.out.length : Int) + 1) := by rw [← hmc]; exact Int.natCast_nonneg _
        have hmc1 : ((u.place : Int) + (i : Int)) % ((u.out.length : Int) + 1) ≤ (u.out.length : Int) := by rw [← hmc]; omega
        have hnc : ((u.n + (u.place + i) / (u.out.length + 1) : Nat) : Int) = (u.n : Int) + ((u.place : Int) + (i : Int)) / ((u.out.length : Int) + 1) := by rw [Int.natCast_add, hdc]
        have cR := Lib.hid (fun W => puny_right ((u.n : Int) + ((u.place : Int) + (i : Int)) / ((u.out.length : Int) + 1)) W)
        rw [← hnc] at cR
        generalize hN : u.n + (u.place + i) / (u.out.length + 1) = N at *
        generalize hM : (u.place + i) % (u.out.length + 1) = M at *
        have HNC := Lib.hid hnc
        have HMC := Lib.hid hmc
        have HD1 := Lib.hid hdm1
        have HD2 := Lib.hid hdm2
        have HD3 := Lib.hid hdm3
        clear hdm1 hdm2 hdm3 hR hbd hdc hmc hnc hN hM hg3 hrd3 HDB HDM HDN HDE c0 c1 c2
        cases hr : rightB (N : Int) with
        | false =>
          have HE := Lib.hid (HDF.out.trans (HGO.out.symm.trans (HD1.out hr)))
          rw [hr] at cR
          clear hr
          go_wp2_with fail
          rw [← HNC.out]
          refine (cR.out _).mono ?_
          rintro e w5 ⟨rfl, hb5⟩
          obtain ⟨d0, d1, d2⟩ := (HR3.out.below hb5).cells
          have HB5 := Lib.hid (Bt HB3.out hb5)
          go_wp2_with fail
          refine (api_Fail' 16 _ _).mono ?_
          rintro e w9 ⟨q, rfl, hq, hb9⟩
          have hbE := HB5.out.trans (hb9.mono HB5.out.size)
          go_wp2_with fail
          go_ret2
          exact ⟨hbE, .inl ⟨16, t - 1, q, HE.out, by decide, rfl, by have := hq; rwa [show (t : Int) - 1 = ((t - 1 : Nat) : Int) by omega] at this⟩⟩
        | true =>
          rw [hr] at cR
          have hN1 : N ≤ 1114111 := by obtain ⟨c, hc, _, hc2⟩ := right_nat hr; omega
          by_cases hmany : 256 < u.out.length + 1
          · have HE := Lib.hid (HDF.out.trans (HGO.out.symm.trans (HD2.out hr hmany)))
            have hmI : (u.out.length : Int) + 1 > 256 := by omega
            clear hr hmany
            go_wp2_with fail
            rw [← HNC.out]
            refine (cR.out _).mono ?_
            rintro e w5 ⟨rfl, hb5⟩
            obtain ⟨d0, d1, d2⟩ := (HR3.out.below hb5).cells
            have HB5 := Lib.hid (Bt HB3.out hb5)
            go_wp2_with fail
            refine (api_Fail' 15 _ _).mono ?_
            rintro e w9 ⟨q, rfl, hq, hb9⟩
            have hbE := HB5.out.trans (hb9.mono HB5.out.size)
            go_wp2_with fail
            go_ret2
            exact ⟨hbE, .inl ⟨15, t - 1, q, HE.out, by decide, rfl, by have := hq; rwa [show (t : Int) - 1 = ((t - 1 : Nat) : Int) by omega] at this⟩⟩
          · have hmI : ¬ (u.out.length : Int) + 1 > 256 := by omega
            have hgo2 := (HD3.out hr hmany).symm.trans HGO.out
            have had := adaptN_le i (u.out.length + 1) u.first
            have cA' : ∀ W, Calls Tryz.prog 67 #[.int .i64 (i : Int), .int .i64 ((u.out.length : Int) + 1), .bool u.first] W fun e w' => e = .returned (.int .i64 ((adaptN i (u.out.length + 1) u.first : Nat) : Int)) ∧ W = w' := fun W => by
              have := puny_Adapt (i : Int) ((u.out.length + 1 : Nat) : Int) u.first W (by omega) (by omega)
              rw [adaptZ_nat _ _ _ (by omega)] at this
              simpa using this
            have CA := Lib.hid cA'
            have HGO2 := Lib.hid hgo2
            generalize adaptN i (u.out.length + 1) u.first = ad at *
            clear hr hmany cA' hgo2
            go_wp2_with fail
            rw [← HNC.out]
            refine (cR.out _).mono ?_
            rintro e w5 ⟨rfl, hb5⟩
            have hb6 : Below w5.heap.size w5 (w5.alloc (.cells #[intV N] 3)) := (Below.refl _ _).alloc (Nat.le_refl _) _
            have HB6 := Lib.hid (Bt (Bt HB3.out hb5) hb6)
            have HO6 := Lib.hid ((HO3.out.below hb5).below hb6)
            have HR6 := Lib.hid ((HR3.out.below hb5).below hb6)
            have hs6 := (Bt hb5 hb6).size
            have hnew := heap_alloc_new w5 (.cells #[intV N] 3)
            have cI' := ints_Insert (w.heap.size + 1) (.slice a1 u.out.length cp1) u.out M N w5.heap.size _ HO6.out (by omega) (by omega) (by omega) hnew (fun e => by have := (World.ownsRow.lt (HO3.out.below hb5) _ e).2; omega)
            have CI := Lib.hid cI'
            clear cI' hnew hb5 hb6
            go_wp2_with fail
            rw [← HMC.out]
            refine CI.out.mono ?_
            rintro e w7 ⟨v7, rfl, hown7, hg7⟩
            have HB7 := Lib.hid (HB6.out.grown hg7 HB6.out.size (fun j hj => by have := (World.ownsRow.lt HO6.out j hj).1; omega))
            have hrd7 := HR6.out.grown HO6.out (by omega) hg7
            obtain ⟨d0, d1, d2⟩ := hrd7.cells
            have g2 := hrd7.frozen 2
            have HR7 := Lib.hid hrd7
            have HO7 := Lib.hid hown7
            clear hrd7 hown7 hg7
            go_wp2_with fail
            refine (CA.out _).mono ?_
            rintro e w8 ⟨rfl, hw8⟩
            obtain rfl := hw8
            have hsetB := HR7.out.setB ad
            have hbS := HB7.out.setCell (show w.heap.size ≤ (⟨w.heap.size, 2, none⟩ : Addr).block from Nat.le_refl _) (.int .i64 (ad : Int))
            have hoS := HO7.out.grown (grown_set (grown_self _ _) 2 (.int .i64 (ad : Int))) (show w.heap.size < w.heap.size + 1 by omega)
            have HSB := Lib.hid hsetB
            have HBS := Lib.hid hbS
            have HOS := Lib.hid hoS
            have hil := insL_len u.out M N (by omega)
            have HIL := Lib.hid hil
            clear hsetB hbS hoS hil
            go_wp2_with fail
            go_roundw
            case rel => exact ⟨f', ⟨t, N, M + 1, ad, false, insL u.out M N⟩, rfl, by simp, rfl, ht2, by dsimp only; omega, hN1, by dsimp only; omega, by dsimp only; omega, by have := HIL.out; dsimp only; omega, HGO2.out, HOS.out, HSB.out, HBS.out⟩
            case measure => have := HIL.out; obtain ⟨z1, z2, z3⟩ := row_len HO7.out; subst z3; simp only [lenV]; omega
    · have hltI : ¬ (u.a : Int) < (s.size : Int) := by omega
      rw [dec_end (by omega)] at hgo
      have HE := Lib.hid (HDF.out.trans hgo.symm)
      clear hgo hown hrd hbe
      go_wp2_with fail
      go_ret2
      exact ⟨HBE.out, .inr ⟨u.out, _, HE.out, rfl, HOW.out.base' (by omega)⟩⟩
end Go.Proofs.YtbonnmkkacplgaaGreatDoor
