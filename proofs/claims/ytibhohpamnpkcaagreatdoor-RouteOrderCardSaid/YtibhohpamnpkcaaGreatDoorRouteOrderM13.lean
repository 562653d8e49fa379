/- The reference's Decode of chapter 09. -/
import Derived.Test.YtibhohpamnpkcaaGreatDoorRouteOrderM12
import Derived.Test.YtibhohpamnpkcaaGreatDoorRouteOrderM9
import Derived.Test.YtibhohpamnpkcaaGreatDoorRouteOrderM1
import Derived.Test.YtibhohpamnpkcaaGreatDoorRouteOrderM8
import Derived.Test.YtibhohpamnpkcaaGreatDoorRouteOrderM4

namespace Go.Proofs.YtibhohpamnpkcaaGreatDoor
open Go.RowKit

def RDecPost (s : ByteArray) (w : World) (e : Ending) (w' : World) : Prop := Below w.heap.size w w' ∧
  ((∃ k j : Nat, ∃ a c, decE s = .error (k, j) ∧ e = .returned (.tuple #[.slice a 0 c, .int .i64 (k : Int), .int .i64 (j : Int)])) ∨ ∃ (l : List Nat) (v' : Value), decE s = .ok l ∧ e = .returned (.tuple #[v', .int .i64 0, .int .i64 0]) ∧ OwnN w' w.heap.size v' l)
/-- A row of numbers that isn't nil. -/
def OwnG (w : World) (base : Nat) (v : Value) (l : List Nat) : Prop := ∃ g c, v = .slice (some ⟨g, 0, none⟩) l.length c ∧ l.length ≤ c ∧ c ≤ maxLen ∧ OwnN w base v l
theorem OwnN.toG {w : World} {base : Nat} {v : Value} {l : List Nat} (h : OwnN w base v l) (h0 : 0 < l.length) : OwnG w base v l := by
  obtain ⟨a, c, rfl⟩ := row_len h
  obtain ⟨g, rfl, _, _, h1, h2, _⟩ := h.cellAt h0
  exact ⟨g, c, rfl, h1, h2, h⟩
theorem OwnG.lit0 (w : World) (base : Nat) (hb : base ≤ w.heap.size) : OwnG (w.alloc (.cells #[] 3)) base (.slice (some ⟨w.heap.size, 0, none⟩) 0 0) [] :=
  ⟨_, 0, rfl, Nat.le_refl _, Nat.zero_le _, OwnN.lit0 w base hb⟩
theorem OwnG.below {w w' : World} {base : Nat} {v : Value} {l : List Nat} (h : OwnG w base v l) (hb : Below w.heap.size w w') : OwnG w' base v l := by
  obtain ⟨g, c, e, h1, h2, h3⟩ := h
  exact ⟨g, c, e, h1, h2, h3.below hb⟩
theorem lastK_hit {s : ByteArray} {k : Nat} (h : byteAt s k = 45) : lastK s (k + 1) = k := by rw [lastK, if_pos h]
theorem lastK_miss {s : ByteArray} {k : Nat} (h : byteAt s k ≠ 45) : lastK s (k + 1) = lastK s k := by rw [lastK, if_neg h]
theorem str_at {s : ByteArray} {k : Nat} (h : k < s.size) : s[k] = byteAt s k := by simp [byteAt, List.getD, h]; rfl

theorem lastK_lt' (s : ByteArray) : ∀ k, 0 < k → lastK s k < k := by
  intro k
  induction k with
  | zero => intro h; omega
  | succ k ih =>
    intro _
    unfold lastK
    split
    · omega
    · by_cases h0 : k = 0
      · subst h0; exact Nat.zero_lt_one
      · have := ih (by omega); omega

set_option maxHeartbeats 12800000 in
set_option maxRecDepth 100000 in
theorem ref09_Decode (s : ByteArray) (w : World) (hs : s.size ≤ 2000) : Calls Tryz.prog 214 #[.string s] w (RDecPost s w) := by
  by_cases hlong : 1024 < s.size
  · have HE := Lib.hid (decE_long hlong)
    have hI : (s.size : Int) > 1024 := by omega
    go_enter Tryz.func214, Tryz.ntmps214
    go_wp2_with fail
    go_ret3
    exact ⟨(Below.refl _ _).alloc (Nat.le_refl _) _, .inl ⟨14, 1024, _, _, HE.out, rfl⟩⟩
  have hlI : ¬ (s.size : Int) > 1024 := by omega
  obtain ⟨L, hL⟩ : ∃ L, lastK s s.size = L := ⟨_, rfl⟩
  have hLle : L ≤ s.size := by rw [← hL]; exact lastK_lt s s.size
  have hDH := fun j h => decE_high (s := s) (j := j) (by omega) h
  have hDL := fun h => decE_low (s := s) (by omega) h
  rw [hL] at hDH hDL
  have HDH := Lib.hid hDH
  have HDL := Lib.hid hDL
  have HL := Lib.hid hL
  have HLL := Lib.hid (lastK_lt s)
  clear hDH hDL hL
  go_enter Tryz.func214, Tryz.ntmps214
  go_wp2_with fail
  go_loopw [5, 6] (fun u v wr => ∃ i q : Nat, i ≤ s.size ∧ v = .int .i64 i ∧ u = .int .i64 ((lastK s i : Nat) : Int) ∧ w.drewN q = wr) (fun _ v _ => s.size - (intOf v).toNat)
  case atStart => exact ⟨0, 0, Nat.zero_le _, rfl, rfl, rfl⟩
  case round =>
    obtain ⟨i, q, hil, rfl, rfl, hwr⟩ := hrel
    have HW := Lib.hid hwr
    by_cases hlt : i < s.size
    · have hiI : (i : Int) < (s.size : Int) := by omega
      have hidx := str_at hlt
      have hhit := lastK_hit (s := s) (k := i)
      have hmiss := lastK_miss (s := s) (k := i)
      rw [← hidx] at hhit hmiss
      have HH := Lib.hid hhit
      have HM := Lib.hid hmiss
      clear hwr hidx hhit hmiss
      by_cases h45 : s[i] = 45
      · have e1 : ((s[i].toNat : Int) == 45) = true := by rw [h45]; rfl
        have HE := Lib.hid (HH.out h45)
        clear h45
        go_wp2_with fail
        go_roundw
        case rel => exact ⟨i + 1, _, by omega, by go_num, by rw [HE.out], HW.out⟩
        case measure => simp [intOf]; omega
      · have e1 : ((s[i].toNat : Int) == 45) = false := by
          rw [beq_eq_false_iff_ne]; intro h; apply h45; apply UInt8.toNat_inj.1; show s[i].toNat = 45; omega
        have HE := Lib.hid (HM.out h45)
        clear h45
        go_wp2_with fail
        go_roundw
        case rel => exact ⟨i + 1, _, by omega, by go_num, by rw [HE.out], HW.out⟩
        case measure => simp [intOf]; omega
    · obtain rfl : i = s.size := by omega
      have hiI : ¬ (s.size : Int) < (s.size : Int) := by omega
      rw [HL.out]
      have hbw : Below w.heap.size w wr := by rw [← hwr]; exact below_drewN (Below.refl _ _) q
      have HBW := Lib.hid hbw
      have hwsz := hbw.size
      clear hwr hbw
      generalize hw2 : wr = w2 at *
      clear hw2
      go_wp2_with fail
      go_loopw [7, 9] (fun v x wr => ∃ i : Nat, i ≤ L ∧ x = .int .i64 i ∧ OwnG wr w.heap.size v (headN s i) ∧ highF s (L - i) i = highF s L 0 ∧ Below w.heap.size w wr) (fun _ x _ => L - (intOf x).toNat)
      case atStart => exact ⟨0, Nat.zero_le _, rfl, OwnG.lit0 _ _ hwsz, rfl, HBW.out.alloc hwsz _⟩
      case round =>
        obtain ⟨i, hil, rfl, hown, hh, hbr⟩ := hrel
        have hrs := hbr.size
        by_cases hlt : i < L
        · have hiI : (i : Int) < (L : Int) := by omega
          have his : i < s.size := by omega
          have hisI : (i : Int) < (s.size : Int) := by omega
          have hidx := str_at his
          have hr1 : L - i = (L - (i + 1)) + 1 := by omega
          rw [hr1] at hh
          have hhit := fun h => (high_hit (s := s) (r := L - (i + 1)) (k := i) h).symm.trans hh
          have hnx := fun h => (high_next (s := s) (r := L - (i + 1)) (k := i) h).symm.trans hh
          have hsu := headN_succ s i
          have hdl := headN_len s i
          rw [← hidx] at hhit hnx hsu
          obtain ⟨g, c, hv, hc1, hc2, hown⟩ := hown
          subst hv
          rw [hdl] at hown hc1 ⊢
          have hc256 := s[i].toNat_lt
          have HH := Lib.hid hhit
          have HN := Lib.hid hnx
          have HSU := Lib.hid hsu
          have HOW := Lib.hid hown
          have HBR := Lib.hid hbr
          clear hhit hnx hsu hown hh hbr hr1 hidx
          by_cases h128 : 128 ≤ s[i].toNat
          · have HE := Lib.hid (HDH.out i (HH.out h128).symm)
            have hcI : (s[i].toNat : Int) ≥ 128 := by omega
            go_wp2_with fail
            go_ret3
            exact ⟨HBR.out.alloc hrs _, .inl ⟨11, i, _, _, HE.out, rfl⟩⟩
          · have hcI : ¬ (s[i].toNat : Int) ≥ 128 := by omega
            have hbf : Below wr.heap.size wr (wr.alloc (.cells #[.int .i64 (s[i].toNat : Int)] 3)) := (Below.refl _ _).alloc (Nat.le_refl _) _
            have hown2 := HOW.out.below hbf
            have hy : (wr.alloc (.cells #[.int .i64 (s[i].toNat : Int)] 3)).heap[wr.heap.size]? = some (.cells #[intV s[i].toNat] 3 (0, 0)) := heap_alloc_new wr _
            have hA1 : (headN s i).length ≤ 1073741824 := by omega
            have hA2 : w.heap.size ≤ (wr.alloc (.cells #[.int .i64 (s[i].toNat : Int)] 3)).heap.size := by simp; omega
            go_wp2_with (at_builtin; refine wpList_app_nat rfl _ _ rfl w.heap.size _ _ rfl hown2 wr.heap.size 1 s[i].toNat rfl hy hA1 hA2 ?_)
            intro v4 w4 hown4 hg4
            have hb4 := hown2.under (HBR.out.trans (hbf.mono hrs)) (Nat.le_refl _) hg4
            rw [← HSU.out] at hown4
            have HN2 := Lib.hid (HN.out h128)
            have hog := hown4.toG (by rw [headN_len]; omega)
            clear hown2 hbf hy hg4 hown4
            go_wp2_with fail
            go_roundw
            case rel => exact ⟨i + 1, by omega, by go_num, hog, HN2.out, hb4⟩
            case measure => simp [intOf]; omega
        · obtain rfl : i = L := by omega
          have hiI : ¬ (i : Int) < (i : Int) := by omega
          have hLo := HDL.out (by rw [← hh, Nat.sub_self]; rfl)
          have HDD := Lib.hid hLo
          have dl := fun h => dec_long (s := s) (l := i) h
          have ds := fun h => dec_short (s := s) (l := i) h
          obtain ⟨g, c, hv, hc1, hc2, hown⟩ := hown
          subst hv
          have hdl := headN_len s i
          rw [hdl] at hown hc1 ⊢
          have HBR := Lib.hid hbr
          have HOW := Lib.hid hown
          obtain ⟨A, hAe, hAs, hA7⟩ : ∃ A : Nat, (if 0 < i then i + 1 else 0) = A ∧ A ≤ s.size ∧ ((0 < i ∧ A = i + 1) ∨ (i = 0 ∧ A = 0)) := by
            refine ⟨_, rfl, ?_, ?_⟩
            · by_cases h0 : 0 < i
              · rw [if_pos h0]
                have := lastK_lt' s s.size (by omega)
                rw [HL.out] at this
                omega
              · rw [if_neg h0]; omega
            · by_cases h0 : 0 < i
              · rw [if_pos h0]; exact .inl ⟨h0, rfl⟩
              · rw [if_neg h0]; exact .inr ⟨by omega, rfl⟩
          rw [hAe] at dl ds
          have HDLo := Lib.hid dl
          have HDSh := Lib.hid ds
          clear dl ds hAe hLo hh hown hbr
          rcases hA7 with ⟨h0, hA⟩ | ⟨h0, hA⟩
          all_goals
            have HA := Lib.hid hA
            have h0I : (i : Int) > 0 ∨ ¬ (i : Int) > 0 := by omega
            first
              | (replace h0I : (i : Int) > 0 := by omega)
              | (replace h0I : ¬ (i : Int) > 0 := by omega)
            have H0 := Lib.hid h0
            clear hA h0
            by_cases h256 : 256 < i
            · have HE := Lib.hid (HDD.out.trans (HDLo.out h256))
              have hI2 : (i : Int) > 256 := by omega
              first
                | (exfalso; have := H0.out; omega)
                | (go_wp2_with fail
                   go_ret3
                   exact ⟨HBR.out.alloc hrs _, .inl ⟨15, A, some ⟨wr.heap.size, 0, none⟩, 0, HE.out, by rw [HA.out]; first | rfl | simp⟩⟩)
            have HDF := Lib.hid (HDD.out.trans (HDSh.out h256))
            have hI2 : ¬ (i : Int) > 256 := by omega
            have hL2 : (headN s i).length ≤ 256 := by omega
            clear h256
            generalize headN s i = hd0 at *
            go_wp2_with fail
            go_loopw [7, 8, 10, 11, 12, 13] (fun v a n p b z wr => ∃ (f : Nat) (u : DSt), a = .int .i64 u.a ∧ n = .int .i64 u.n ∧ p = .int .i64 u.place ∧ b = .int .i64 u.bias ∧ z = .bool u.first ∧ u.a ≤ s.size ∧ s.size ≤ u.a + f ∧ u.n ≤ 1114111 ∧ u.place ≤ 257 ∧ u.bias ≤ 1000000000000 ∧ u.out.length ≤ 256 ∧ decF s f u = decF s s.size ⟨A, 128, 0, 72, true, hd0⟩ ∧ OwnG wr w.heap.size v u.out ∧ Below w.heap.size w wr) (fun _ a _ _ _ _ _ => 3000 - (intOf a).toNat)
            case atStart => exact ⟨s.size, ⟨A, 128, 0, 72, true, hd0⟩, by rw [HA.out]; simp, rfl, rfl, rfl, rfl, hAs, by dsimp only; omega, by dsimp only; omega, by dsimp only; omega, by dsimp only; omega, hL2, rfl, ⟨g, c, by rw [hdl], by dsimp only; omega, hc2, HOW.out⟩, HBR.out⟩
            case round =>
              obtain ⟨f, u, rfl, rfl, rfl, rfl, rfl, hua, huf, hun, hup, hub, huo, hgo, hown, hbe⟩ := hrel
              obtain ⟨g1, c1, hv1, hd1, hd2, hown⟩ := hown
              subst hv1
              have HBE := Lib.hid hbe
              have HOW1 := Lib.hid hown
              have hws := hbe.size
              by_cases hlt : u.a < s.size
              · have hltI : (u.a : Int) < (s.size : Int) := by omega
                obtain ⟨f', rfl⟩ : ∃ f', f = f' + 1 := ⟨f - 1, by omega⟩
                have cN := Lib.hid (ref09_number u.a u.bias s wr (by omega) hua hub)
                have hde := fun e h => dec_err (f := f') (e := e) hlt h
                have hdb := fun i t h => dec_bad (f := f') (i := i) (t := t) hlt h
                have hdm := fun i t h => dec_many (f := f') (i := i) (t := t) hlt h
                have hdn := fun i t h => dec_next (f := f') (i := i) (t := t) hlt h
                have HDE := Lib.hid hde
                have HDB := Lib.hid hdb
                have HDM := Lib.hid hdm
                have HDN := Lib.hid hdn
                have HGO := Lib.hid hgo
                clear hde hdb hdm hdn hgo hown hbe
                go_wp2_with fail
                refine cN.out.mono ?_
                rintro e w3 ⟨⟨q3, hq3⟩, h⟩
                have hbq : Below wr.heap.size wr w3 := by rw [← hq3]; exact below_drewN (Below.refl _ _) q3
                have HB3 := Lib.hid (HBE.out.trans (hbq.mono hws))
                have HO3 := Lib.hid (HOW1.out.below hbq)
                have hs3 := HB3.out.size
                clear hbq hq3
                rcases h with ⟨k, j, hR, hk, rfl⟩ | ⟨i1, t, hR, rfl⟩
                · have HE := Lib.hid (HDF.out.trans (HGO.out.symm.trans (HDE.out _ hR)))
                  have ek : ((k : Int) != 0) = true := by rw [bne_iff_ne]; omega
                  clear hR hk
                  go_wp2_with fail
                  go_ret3
                  exact ⟨HB3.out.alloc hs3 _, .inl ⟨k, j, _, _, HE.out, rfl⟩⟩
                · have hbd := rdF_bounds s u.bias _ _ _ _ _ i1 t hR
                  have hdm1 := HDB.out i1 t hR
                  have hdm2 := HDM.out i1 t hR
                  have hdm3 := HDN.out i1 t hR
                  have hle : (u.place + i1) / (u.out.length + 1) ≤ u.place + i1 := Nat.div_le_self _ _
                  have hml : (u.place + i1) % (u.out.length + 1) < u.out.length + 1 := Nat.mod_lt _ (by omega)
                  have hdc : (((u.place + i1) / (u.out.length + 1) : Nat) : Int) = ((u.place : Int) + (i1 : Int)) / ((u.out.length : Int) + 1) := by rw [Int.natCast_ediv]; simp
                  have hmc : (((u.place + i1) % (u.out.length + 1) : Nat) : Int) = ((u.place : Int) + (i1 : Int)) % ((u.out.length : Int) + 1) := by rw [Int.natCast_emod]; simp
                  have hi2 := hbd.2.2
                  have ht1 := hbd.1
                  have ht2 := hbd.2.1
                  have hdc0 : 0 ≤ ((u.place : Int) + (i1 : Int)) / ((u.out.length : Int) + 1) := by rw [← hdc]; exact Int.natCast_nonneg _
                  have hdc1 : ((u.place : Int) + (i1 : Int)) / ((u.out.length : Int) + 1) ≤ 4000000000 := by rw [← hdc]; omega
                  have hmc0 : 0 ≤ ((u.place : Int) + (i1 : Int)) % ((u.out.length : Int) + 1) := by rw [← hmc]; exact Int.natCast_nonneg _
                  have hmc1 : ((u.place : Int) + (i1 : Int)) % ((u.out.length : Int) + 1) ≤ (u.out.length : Int) := by rw [← hmc]; omega
                  have hnc : ((u.n + (u.place + i1) / (u.out.length + 1) : Nat) : Int) = (u.n : Int) + ((u.place : Int) + (i1 : Int)) / ((u.out.length : Int) + 1) := by rw [Int.natCast_add, hdc]
                  have cR := Lib.hid (fun W => ref_Right ((u.n : Int) + ((u.place : Int) + (i1 : Int)) / ((u.out.length : Int) + 1)) W)
                  rw [← hnc] at cR
                  generalize hN : u.n + (u.place + i1) / (u.out.length + 1) = N at *
                  have HNC := Lib.hid hnc
                  have HMC := Lib.hid hmc
                  have HD1 := Lib.hid hdm1
                  have HD2 := Lib.hid hdm2
                  have HD3 := Lib.hid hdm3
                  clear hdm1 hdm2 hdm3 hR hbd hdc hmc hnc hN HDB HDM HDN HDE
                  cases hr : rightB (N : Int) with
                  | false =>
                    have HE := Lib.hid (HDF.out.trans (HGO.out.symm.trans (HD1.out hr)))
                    rw [hr] at cR
                    clear hr
                    go_wp2_with fail
                    rw [← HNC.out]
                    refine (cR.out _).mono ?_
                    rintro e w5 ⟨rfl, hb5⟩
                    obtain rfl := hb5
                    go_wp2_with fail
                    go_ret3
                    exact ⟨HB3.out.alloc hs3 _, .inl ⟨16, t - 1, _, _, HE.out, by rw [show ((t - 1 : Nat) : Int) = (t : Int) - 1 by omega]; rfl⟩⟩
                  | true =>
                    rw [hr] at cR
                    have hN1 : N ≤ 1114111 := by obtain ⟨c, hc, _, hc2⟩ := right_nat hr; omega
                    by_cases hmany : 256 < u.out.length + 1
                    · have HE := Lib.hid (HDF.out.trans (HGO.out.symm.trans (HD2.out hr hmany)))
                      have hmI : (u.out.length : Int) + 1 > 256 := by omega
                      clear hr hmany
                      go_wp2_with fail
                      rw [← HNC.out]
                      refine (cR.out _).mono ?_
                      rintro e w5 ⟨rfl, hb5⟩
                      obtain rfl := hb5
                      go_wp2_with fail
                      go_ret3
                      exact ⟨HB3.out.alloc hs3 _, .inl ⟨15, t - 1, _, _, HE.out, by rw [show ((t - 1 : Nat) : Int) = (t : Int) - 1 by omega]; rfl⟩⟩
                    · have hmI : ¬ (u.out.length : Int) + 1 > 256 := by omega
                      have hgo2 := (HD3.out hr hmany).symm.trans HGO.out
                      have had := adaptN_le i1 (u.out.length + 1) u.first
                      have cA' : ∀ W, Calls Tryz.prog 200 #[.int .i64 (i1 : Int), .int .i64 ((u.out.length : Int) + 1), .bool u.first] W fun e w' => e = .returned (.int .i64 ((adaptN i1 (u.out.length + 1) u.first : Nat) : Int)) ∧ W = w' := fun W => by
                        have := ref_Adapt (i1 : Int) ((u.out.length + 1 : Nat) : Int) u.first W (by omega) (by omega)
                        rw [adaptZ_nat _ _ _ (by omega)] at this
                        simpa using this
                      have CA := Lib.hid cA'
                      have HGO2 := Lib.hid hgo2
                      generalize adaptN i1 (u.out.length + 1) u.first = ad at *
                      clear hr hmany cA' hgo2
                      go_wp2_with fail
                      rw [← HNC.out]
                      refine (cR.out _).mono ?_
                      rintro e w5 ⟨rfl, hb5⟩
                      obtain rfl := hb5
                      have hbf : Below w3.heap.size w3 (w3.alloc (.cells #[] 3)) := (Below.refl _ _).alloc (Nat.le_refl _) _
                      have hnx0 := OwnN.lit0 w3 w3.heap.size (Nat.le_refl _)
                      have hp1 := (HO3.out.below hbf).part 0 ((u.place + i1) % (u.out.length + 1)) c1 (Nat.zero_le _) (by omega) (by omega) hd2
                      rw [Nat.sub_zero, List.drop_zero] at hp1
                      have hA1 : ([] : List Nat).length + (u.out.take ((u.place + i1) % (u.out.length + 1))).length ≤ 1073741824 := by simp; omega
                      have hA2 : w3.heap.size ≤ (w3.alloc (.cells #[] 3)).heap.size := by simp
                      have HP1 := Lib.hid hp1
                      have HNX := Lib.hid hnx0
                      have hMc : ((u.place + i1) % (u.out.length + 1)) ≤ c1 := by omega
                      have hMl : ((u.place + i1) % (u.out.length + 1)) ≤ u.out.length := by omega
                      unfold maxLen at hd2
                      clear hp1 hnx0
                      go_wp2_with (at_builtin; refine wpList_app_ints rfl _ _ rfl w3.heap.size _ [] rfl HNX.out _ (u.out.take ((u.place + i1) % (u.out.length + 1))) rfl HP1.out hA1 hA2 ?_)
                      intro v4 w4 hown4 hg4
                      have hb4 := HNX.out.under hbf (Nat.le_refl _) hg4
                      have hbf5 : Below w4.heap.size w4 (w4.alloc (.cells #[.int .i64 (N : Int)] 3)) := (Below.refl _ _).alloc (Nat.le_refl _) _
                      have hy5 : (w4.alloc (.cells #[.int .i64 (N : Int)] 3)).heap[w4.heap.size]? = some (.cells #[intV N] 3 (0, 0)) := heap_alloc_new w4 _
                      have hown4b := hown4.below hbf5
                      have hA3 : (u.out.take ((u.place + i1) % (u.out.length + 1))).length ≤ 1073741824 := by simp; omega
                      have hb4s := hb4.size
                      have hA4 : w3.heap.size ≤ (w4.alloc (.cells #[.int .i64 (N : Int)] 3)).heap.size := by simp; omega
                      clear hg4 hown4
                      go_wp2_with (at_builtin; refine wpList_app_nat rfl _ _ rfl w3.heap.size _ _ rfl hown4b w4.heap.size 1 N rfl hy5 hA3 hA4 ?_)
                      intro v5 w5 hown5 hg5
                      have hb5 := hown4b.under (hb4.trans (hbf5.mono hb4s)) (Nat.le_refl _) hg5
                      have hb5s := hb5.size
                      have hp5 := (HO3.out.below hb5).part ((u.place + i1) % (u.out.length + 1)) u.out.length (c1 - ((u.place + i1) % (u.out.length + 1))) hMl (Nat.le_refl _) (by omega) (by unfold maxLen; omega)
                      rw [List.take_length] at hp5
                      have hA5 : (u.out.take ((u.place + i1) % (u.out.length + 1)) ++ [N]).length + (u.out.drop ((u.place + i1) % (u.out.length + 1))).length ≤ 1073741824 := by simp; omega
                      have HP5 := Lib.hid hp5
                      have HB5 := Lib.hid hb5
                      have hdn : c1 = ((u.place + i1) % (u.out.length + 1)) → u.out.drop ((u.place + i1) % (u.out.length + 1)) = [] := fun h => List.drop_eq_nil_of_le (by omega)
                      have HDNIL := Lib.hid hdn
                      clear hp5 hg5 hown4b hy5 hbf5 hbf hb4 hb5 hdn HNX HP1
                      have hins : u.out.take ((u.place + i1) % (u.out.length + 1)) ++ [N] ++ u.out.drop ((u.place + i1) % (u.out.length + 1)) = insL u.out ((u.place + i1) % (u.out.length + 1)) N := by unfold insL; simp
                      have hinl := insL_len u.out ((u.place + i1) % (u.out.length + 1)) N hMl
                      have HINS := Lib.hid hins
                      have HINL := Lib.hid hinl
                      have hpc : ((((u.place + i1) % (u.out.length + 1)) + 1 : Nat) : Int) = ((u.place : Int) + (i1 : Int)) % ((u.out.length : Int) + 1) + 1 := by rw [Int.natCast_add, HMC.out]; rfl
                      have HPC := Lib.hid hpc
                      clear hins hinl hpc
                      have hy6 : IntsSl w5 (.slice (if c1 = ((u.place + i1) % (u.out.length + 1)) then some ⟨g1, 0, none⟩ else some ⟨g1, ((u.place + i1) % (u.out.length + 1)), none⟩) (u.out.length - ((u.place + i1) % (u.out.length + 1))) (c1 - ((u.place + i1) % (u.out.length + 1)))) (intsN (u.out.drop ((u.place + i1) % (u.out.length + 1)))) := by
                        by_cases hcM : c1 = ((u.place + i1) % (u.out.length + 1))
                        · rw [HDNIL.out hcM]
                          exact .inl ⟨rfl, _, _, by rw [show u.out.length - ((u.place + i1) % (u.out.length + 1)) = 0 by omega]⟩
                        · rw [if_neg hcM]; exact HP5.out
                      have HY6 := Lib.hid hy6
                      clear hy6 HP5 HDNIL
                      go_wp2_with (at_builtin; refine wpList_app_ints rfl _ _ rfl w3.heap.size _ _ rfl hown5 (.slice (if c1 = ((u.place + i1) % (u.out.length + 1)) then some ⟨g1, 0, none⟩ else some ⟨g1, ((u.place + i1) % (u.out.length + 1)), none⟩) (u.out.length - ((u.place + i1) % (u.out.length + 1))) (c1 - ((u.place + i1) % (u.out.length + 1)))) (u.out.drop ((u.place + i1) % (u.out.length + 1))) rfl HY6.out hA5 hb5s ?_)
                      all_goals
                        intro v6 w6 hown6 hg6
                        have hb6 := hown5.under HB5.out (Nat.le_refl _) hg6
                        have HBE6 := Lib.hid (HB3.out.trans (hb6.mono hs3))
                        replace hown6 : OwnN w6 w3.heap.size v6 (insL u.out ((u.place + i1) % (u.out.length + 1)) N) := by first | exact hown6 | (rw [← HINS.out]; exact hown6)
                        have HOG := Lib.hid ((hown6.base' hs3).toG (by rw [HINL.out]; omega))
                        clear hown6 hg6 hb6 hown5
                        go_wp2_with fail
                        refine (CA.out _).mono ?_
                        rintro e w8 ⟨rfl, hw8⟩
                        obtain rfl := hw8
                        go_wp2_with fail
                        go_roundw
                        case rel => exact ⟨f', ⟨t, N, ((u.place + i1) % (u.out.length + 1)) + 1, ad, false, insL u.out ((u.place + i1) % (u.out.length + 1)) N⟩, rfl, rfl, by rw [HPC.out], rfl, rfl, ht2, by dsimp only; omega, hN1, by dsimp only; omega, by dsimp only; omega, by have := HINL.out; dsimp only; omega, HGO2.out, HOG.out, HBE6.out⟩
                        case measure => simp [intOf]; omega
              · have hltI : ¬ (u.a : Int) < (s.size : Int) := by omega
                rw [dec_end (by omega)] at hgo
                have HE := Lib.hid (HDF.out.trans hgo.symm)
                clear hgo hown hbe
                go_wp2_with fail
                go_ret3
                exact ⟨HBE.out, .inr ⟨u.out, _, HE.out, rfl, HOW1.out⟩⟩
end Go.Proofs.YtibhohpamnpkcaaGreatDoor

/- The reference's encoding of chapter 09: next, written. -/
namespace Go.Proofs.YtibhohpamnpkcaaGreatDoor
open Go.RowKit

theorem digs09_cut (i : Nat) (h : i < 36) : digs09.extract i (i + 1) = ⟨#[digN i]⟩ := by
  have : ∀ i : Fin 36, digs09.extract i.1 (i.1 + 1) = ⟨#[digN i.1]⟩ := by decide +kernel
  exact this ⟨i, h⟩
theorem ba_snoc (l : List UInt8) (b : UInt8) : (⟨l.toArray⟩ : ByteArray) ++ ⟨#[b]⟩ = ⟨(l ++ [b]).toArray⟩ := by
  apply ba_ext
  rw [data_append]
theorem ba_app (l m : List UInt8) : (⟨l.toArray⟩ : ByteArray) ++ ⟨m.toArray⟩ = ⟨(l ++ m).toArray⟩ := by
  apply ba_ext
  rw [data_append]
theorem ba_size (l : List UInt8) : (⟨l.toArray⟩ : ByteArray).size = l.length := by show l.toArray.size = _; simp
/-- The least from a number on; -1: none. -/
def bestS (n b c : Int) : Int := if n ≤ c then if b < 0 then c else if c < b then c else b else b
def bestZ (n : Int) (l : List Int) : Int := l.foldl (bestS n) (-1)
theorem bestZ_snoc (n : Int) (l : List Int) (c : Int) : bestZ n (l ++ [c]) = bestS n (bestZ n l) c := by unfold bestZ; rw [List.foldl_append]; rfl
theorem bestS_lo {n b c : Int} (h : ¬ n ≤ c) : bestS n b c = b := by unfold bestS; rw [if_neg h]
theorem bestS_new {n b c : Int} (h : n ≤ c) (h2 : b < 0) : bestS n b c = c := by unfold bestS; rw [if_pos h, if_pos h2]
theorem bestS_less {n b c : Int} (h : n ≤ c) (h2 : ¬ b < 0) (h3 : c < b) : bestS n b c = c := by unfold bestS; rw [if_pos h, if_neg h2, if_pos h3]
theorem bestS_not {n b c : Int} (h : n ≤ c) (h2 : ¬ b < 0) (h3 : ¬ c < b) : bestS n b c = b := by unfold bestS; rw [if_pos h, if_neg h2, if_neg h3]
theorem bestZ_facts (n : Nat) : ∀ l : List Nat, (bestZ n (l.map fun c : Nat => (c : Int)) = -1 ∧ ∀ x ∈ l, ¬ n ≤ x) ∨ ∃ b : Nat, bestZ n (l.map fun c : Nat => (c : Int)) = b ∧ b ∈ l ∧ n ≤ b ∧ ∀ x ∈ l, n ≤ x → b ≤ x := by
  suffices H : ∀ k (l : List Nat), l.length = k → (bestZ n (l.map fun c : Nat => (c : Int)) = -1 ∧ ∀ x ∈ l, ¬ n ≤ x) ∨ ∃ b : Nat, bestZ n (l.map fun c : Nat => (c : Int)) = b ∧ b ∈ l ∧ n ≤ b ∧ ∀ x ∈ l, n ≤ x → b ≤ x from fun l => H _ l rfl
  intro k
  induction k with
  | zero =>
    intro l hl
    obtain rfl := List.eq_nil_of_length_eq_zero hl
    exact .inl ⟨rfl, fun x hx => by cases hx⟩
  | succ k ih =>
    intro l hl
    obtain ⟨m, c, rfl⟩ : ∃ m c, l = m ++ [c] := ⟨l.dropLast, l.getLast (by intro e; subst e; simp at hl), (List.dropLast_concat_getLast _).symm⟩
    have hm : m.length = k := by simpa using hl
    rw [List.map_append, List.map_singleton, bestZ_snoc]
    have hmem : ∀ x, x ∈ m ++ [c] ↔ x ∈ m ∨ x = c := fun x => by simp
    rcases ih m hm with ⟨e, h⟩ | ⟨b, e, h1, h2, h3⟩
    · rw [e]
      by_cases hn : n ≤ c
      · rw [bestS_new (by omega) (by omega)]
        refine .inr ⟨c, rfl, by simp, hn, fun x hx hnx => ?_⟩
        rcases (hmem x).1 hx with hx | rfl
        · exact absurd hnx (h x hx)
        · exact Nat.le_refl _
      · rw [bestS_lo (by omega)]
        refine .inl ⟨rfl, fun x hx => ?_⟩
        rcases (hmem x).1 hx with hx | rfl
        · exact h x hx
        · exact hn
    · rw [e]
      by_cases hn : n ≤ c
      · by_cases hlt : c < b
        · rw [bestS_less (by omega) (by omega) (by omega)]
          refine .inr ⟨c, rfl, by simp, hn, fun x hx hnx => ?_⟩
          rcases (hmem x).1 hx with hx | rfl
          · exact Nat.le_trans (Nat.le_of_lt hlt) (h3 x hx hnx)
          · exact Nat.le_refl _
        · rw [bestS_not (by omega) (by omega) (by omega)]
          refine .inr ⟨b, rfl, by simp [h1], h2, fun x hx hnx => ?_⟩
          rcases (hmem x).1 hx with hx | rfl
          · exact h3 x hx hnx
          · omega
      · rw [bestS_lo (by omega)]
        refine .inr ⟨b, rfl, by simp [h1], h2, fun x hx hnx => ?_⟩
        rcases (hmem x).1 hx with hx | rfl
        · exact h3 x hx hnx
        · exact absurd hnx hn
/-- The head of what is left; -1: nothing. -/
def headZ : List Nat → Int
  | [] => -1
  | m :: _ => m
theorem best_head {cs ms : List Nat} {n : Nat} {zs : List Int} (hz : zs = cs.map fun c : Nat => (c : Int)) (hp : ms.Pairwise (· < ·)) (hm : ∀ x, x ∈ ms ↔ x ∈ cs ∧ n ≤ x) : bestZ n zs = headZ ms := by
  subst hz
  rcases bestZ_facts n cs with ⟨e, h⟩ | ⟨b, e, h1, h2, h3⟩
  · rw [e]
    cases ms with
    | nil => rfl
    | cons m ms => exact absurd ((hm m).1 (by simp)).2 (h m ((hm m).1 (by simp)).1)
  · rw [e]
    have hb := (hm b).2 ⟨h1, h2⟩
    cases ms with
    | nil => cases hb
    | cons m ms =>
      have hm' := (hm m).1 (by simp)
      have := h3 m hm'.1 hm'.2
      rcases List.mem_cons.1 hb with rfl | hb
      · rfl
      · have := (List.pairwise_cons.1 hp).1 b hb
        omega

set_option maxHeartbeats 1600000 in
set_option maxRecDepth 100000 in
theorem ref09_next (x : Value) (zs : List Int) (n : Nat) (w : World) (hx : IntsSl w x zs) (hl : zs.length ≤ 1000) : Calls Tryz.prog 198 #[x, .int .i64 (n : Int)] w fun e w' => e = .returned (.int .i64 (bestZ n zs)) ∧ ∃ q, w.drewN q = w' := by
  rcases hx with ⟨rfl, a, cap, rfl⟩ | ⟨b, off, cap, rfl, hc, hcm, hbs, hp⟩
  · go_enter Tryz.func198, Tryz.ntmps198
    go_wp2_with fail
    refine wp_loop_rounds 1 ?_
    rw [rounds_succ]
    go_wp2_with fail
    go_ret
    exact ⟨rfl, 0, rfl⟩
  · have HP := Lib.hid hp
    unfold maxLen at hcm
    have hall : bestZ n (zs.take zs.length) = bestZ n zs := by rw [List.take_length]
    have HALL := Lib.hid hall
    clear hp hall
    go_enter Tryz.func198, Tryz.ntmps198
    go_wp2_with fail
    go_loopw [5, 6] (fun u v wr => ∃ i q : Nat, i ≤ zs.length ∧ v = .int .i64 i ∧ u = .int .i64 (bestZ n (zs.take i)) ∧ w.drewN q = wr) (fun _ v _ => zs.length - (intOf v).toNat)
    case atStart => exact ⟨0, 0, Nat.zero_le _, rfl, rfl, rfl⟩
    case round =>
      obtain ⟨i, q, hil, rfl, rfl, hwr⟩ := hrel
      by_cases hlt : i < zs.length
      · have hcell : wr.cell? ⟨b, off + i, none⟩ = some (.int .i64 (zs.getD i 0)) := ((show Below w.heap.size w wr by rw [← hwr]; exact below_drewN (Below.refl _ _) q).cell (p := ⟨b, off + i, none⟩) hbs).trans (HP.out i hlt)
        have hst : bestZ n (zs.take (i + 1)) = bestS n (bestZ n (zs.take i)) (zs.getD i 0) := by
          rw [List.take_succ_eq_append_getElem hlt, bestZ_snoc]
          simp [List.getD, hlt]
        have HW := Lib.hid hwr
        generalize bestZ n (zs.take i) = B at *
        generalize zs.getD i 0 = c at *
        have HST := Lib.hid hst
        clear hwr hst
        have hiI : (i : Int) < (zs.length : Int) := by omega
        by_cases h1 : (n : Int) ≤ c
        · have h1I : c ≥ (n : Int) := h1
          by_cases h2 : B < 0
          · have HB := Lib.hid (bestS_new h1 h2)
            clear h1
            go_wp2_with fail
            go_roundw
            case rel => exact ⟨i + 1, _, by omega, by go_num, by rw [HST.out, HB.out], by first | exact HW.out | rw [← HW.out, World.drewN_drewN]⟩
            case measure => simp [intOf]; omega
          · by_cases h3 : c < B
            · have HB := Lib.hid (bestS_less h1 h2 h3)
              clear h1
              go_wp2_with fail
              go_roundw
              case rel => exact ⟨i + 1, _, by omega, by go_num, by rw [HST.out, HB.out], by first | exact HW.out | rw [← HW.out, World.drewN_drewN]⟩
              case measure => simp [intOf]; omega
            · have HB := Lib.hid (bestS_not h1 h2 h3)
              clear h1
              go_wp2_with fail
              go_roundw
              case rel => exact ⟨i + 1, _, by omega, by go_num, by rw [HST.out, HB.out], by first | exact HW.out | rw [← HW.out, World.drewN_drewN]⟩
              case measure => simp [intOf]; omega
        · have h1I : ¬ c ≥ (n : Int) := h1
          have HB := Lib.hid (bestS_lo (b := B) h1)
          clear h1
          go_wp2_with fail
          go_roundw
          case rel => exact ⟨i + 1, _, by omega, by go_num, by rw [HST.out, HB.out], by first | exact HW.out | rw [← HW.out, World.drewN_drewN]⟩
          case measure => simp [intOf]; omega
      · obtain rfl : i = zs.length := by omega
        have HW := Lib.hid hwr
        clear hwr
        have hiI : ¬ (zs.length : Int) < (zs.length : Int) := by omega
        go_wp2_with fail
        go_ret
        exact ⟨rfl, _, HW.out⟩
set_option maxHeartbeats 3200000 in
set_option maxRecDepth 100000 in
theorem ref09_written (n bias : Nat) (w : World) (hn : n < 1000000000) (hb : bias ≤ 1000000000000) :
    Calls Tryz.prog 199 #[.int .i64 (n : Int), .int .i64 (bias : Int)] w fun e w' => e = .returned (.string ⟨(numD n bias).toArray⟩) ∧ ∃ q, w.drewN q = w' := by
  have hlen2 := numD_len (b := bias) hn
  have HD := Lib.hid (show numD n bias = numLp n n 36 bias from rfl)
  generalize numD n bias = D at *
  go_enter Tryz.func199, Tryz.ntmps199
  go_wp2_with fail
  go_loopw [0, 5, 6] (fun x s y wr => ∃ (f m k q : Nat) (acc : List UInt8), x = .int .i64 m ∧ s = .string ⟨acc.toArray⟩ ∧ y = .int .i64 k ∧ m ≤ f ∧ m ≤ n ∧ k = 36 * (acc.length + 1) ∧ acc ++ numLp f m k bias = D ∧ w.drewN q = wr) (fun x _ _ _ => (intOf x).toNat)
  case atStart => exact ⟨n, n, 36, 0, [], rfl, rfl, rfl, Nat.le_refl _, Nat.le_refl _, rfl, HD.out.symm, rfl⟩
  case round =>
    obtain ⟨f, m, k, q, acc, rfl, rfl, rfl, hmf, hmn, hk, hacc, hwr⟩ := hrel
    have hal : acc.length ≤ 10 := by
      have := congrArg List.length hacc
      rw [List.length_append] at this
      omega
    have hk2 : k ≤ 1000000 := by omega
    have cT := Lib.hid (ref09_threshold k bias wr hk2 hb)
    have ht := thrN_range k bias
    have HW := Lib.hid hwr
    have HK := Lib.hid hk
    have hsz := ba_size acc
    clear hk hwr
    by_cases hlt : m < thrN k bias
    · rw [numL_last hlt] at hacc
      have HA := Lib.hid hacc
      generalize thrN k bias = t at *
      have hltI : (m : Int) < (t : Int) := by omega
      have HC := Lib.hid (digs09_cut m (by omega))
      have hds : digs09.size = 36 := by decide
      clear hacc hlt
      go_wp2_with fail
      refine cT.out.mono ?_
      rintro e w2 ⟨rfl, rfl⟩
      go_wp2_with fail
      go_ret
      exact ⟨ret_str (by rw [← HA.out, ← ba_snoc, ← HC.out]; rfl), _, HW.out⟩
    · obtain ⟨f', rfl⟩ : ∃ f', f = f' + 1 := ⟨f - 1, by omega⟩
      have hless := num_less hlt
      rw [numL_more hlt] at hacc
      obtain ⟨e1, e2⟩ := sub_div_int (m := m) (t := thrN k bias) (by omega) ht.2
      have hmod : (m - thrN k bias) % (36 - thrN k bias) < 36 - thrN k bias := Nat.mod_lt _ (by omega)
      generalize thrN k bias = t at *
      have hdg : t + (m - t) % (36 - t) < 36 := by omega
      have hltI : ¬ (m : Int) < (t : Int) := by omega
      generalize (m - t) / (36 - t) = q1 at *
      have HA := Lib.hid hacc
      have HC := Lib.hid (digs09_cut (t + (m - t) % (36 - t)) hdg)
      have hX0 : 0 ≤ ((m : Int) - (t : Int)) % (36 - (t : Int)) := by rw [← e2]; omega
      have hX1 : ((m : Int) - (t : Int)) % (36 - (t : Int)) ≤ 35 - (t : Int) := by rw [← e2]; omega
      have hY0 : 0 ≤ ((m : Int) - (t : Int)) / (36 - (t : Int)) := by rw [← e1]; omega
      have hY1 : ((m : Int) - (t : Int)) / (36 - (t : Int)) ≤ (m : Int) := by rw [← e1]; omega
      have HE1 := Lib.hid e1
      clear hacc hlt e1 e2
      go_wp2_with fail
      refine cT.out.mono ?_
      rintro e w2 ⟨rfl, rfl⟩
      go_wp2_with fail
      go_roundw
      case rel => exact ⟨f', q1, k + 36, _, acc ++ [digN (t + (m - t) % (36 - t))], by rw [HE1.out], by rw [← ba_snoc, ← HC.out]; rfl, by simp, by omega, by omega, by have := HK.out; simp; omega, by rw [List.append_assoc]; exact HA.out, by first | exact HW.out | rw [← HW.out, World.drewN_drewN]⟩
      case measure => simp only [intOf]; rw [← HE1.out]; omega
end Go.Proofs.YtibhohpamnpkcaaGreatDoor
