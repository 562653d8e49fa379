/- The reference's Encode of chapter 09. -/
import Derived.Test.YtibhohpamnpkcaaGreatDoorRouteOrderM13
import Derived.Test.YtibhohpamnpkcaaGreatDoorRouteOrderM12
import Derived.Test.YtibhohpamnpkcaaGreatDoorRouteOrderM1

namespace Go.Proofs.YtibhohpamnpkcaaGreatDoor
open Go.RowKit

def REncPost (zs : List Int) (w : World) (e : Ending) (w' : World) : Prop := Below w.heap.size w w' ∧
  ((∃ k i : Nat, encE zs = .error (k, i) ∧ k ≠ 0 ∧ e = .returned (.tuple #[.string ⟨#[]⟩, .int .i64 (k : Int), .int .i64 (i : Int)])) ∨ ∃ l : List UInt8, encE zs = .ok l ∧ e = .returned (.tuple #[.string ⟨l.toArray⟩, .int .i64 0, .int .i64 0]))
theorem one_byte (w : World) (c : Nat) (hc : c < 128) : (convert 74 9 (.slice (some ⟨w.heap.size, 0, none⟩) 1 1)).run Tryz.prog (w.alloc (.cells #[.int .u8 (c : Int)] 5)) = .ok (.string ⟨#[UInt8.ofNat c]⟩) (w.alloc (.cells #[.int .u8 (c : Int)] 5)) := by
  have h := (OwnB.lit (base := w.heap.size) w [UInt8.ofNat c] #[.int .u8 (c : Int)] 1 (by simp only [List.map_cons, List.map_nil, byteV, conv_u8 hc]) rfl (Nat.le_refl _) (by simp)).conv
  exact h
def measZ (z : Int) : Nat := if z < 0 then 0 else 1114113 - z.toNat
theorem meas_next {m : Nat} {ms : List Nat} (h : ∀ x ∈ ms, m < x) (hm : m ≤ 1114111) : measZ (headZ ms) < measZ (m : Int) := by
  have e : measZ (m : Int) = 1114113 - m := by unfold measZ; rw [if_neg (by omega)]; rfl
  rw [e]
  cases ms with
  | nil =>
    have : measZ (headZ []) = 0 := by decide
    rw [this]; omega
  | cons x ms =>
    have := h x (by simp)
    have e2 : measZ (headZ (x :: ms)) = 1114113 - x := by show measZ (x : Int) = _; unfold measZ; rw [if_neg (by omega)]; rfl
    rw [e2]; omega
set_option maxHeartbeats 6400000 in
set_option maxRecDepth 100000 in
theorem ref09_Encode1 (b off cap : Nat) (zs : List Int) (w : World) (hne : 0 < zs.length) (h256 : zs.length ≤ 256) (hcap : zs.length ≤ cap) (hcm : cap ≤ maxLen) (hbw : b < w.heap.size) (hcell : ∀ j, j < zs.length → w.cell? ⟨b, off + j, none⟩ = some (.int .i64 (zs.getD j 0))) :
    Calls Tryz.prog 176 #[.slice (some ⟨b, off, none⟩) zs.length cap] w (REncPost zs w) := by
  have hlI : ¬ (zs.length : Int) > 256 := by omega
  have hrl := rightLen_le zs
  have hokE := fun h => encE_ok (zs := zs) (by omega) h
  have hbadE := fun i h h2 => encE_bad (zs := zs) (i := i) (by omega) h h2
  have HOKE := Lib.hid hokE
  have HBADE := Lib.hid hbadE
  have HCELL := Lib.hid hcell
  have hsl0 : IntsSl w (.slice (some ⟨b, off, none⟩) zs.length cap) zs := .inr ⟨b, off, cap, rfl, hcap, hcm, hbw, hcell⟩
  have HSL := Lib.hid hsl0
  unfold maxLen at hcm
  clear hokE hbadE hcell hsl0
  go_enter Tryz.func176, Tryz.ntmps176
  go_wp2_with fail
  go_loopw [5, 6] (fun u v wr => ∃ k : Nat, k ≤ zs.length ∧ v = .int .i64 k ∧ k ≤ rightLen zs ∧ u = .string ⟨(basicL ((nats zs).take k)).toArray⟩ ∧ Below w.heap.size w wr) (fun _ v _ => zs.length - (intOf v).toNat)
  case atStart => exact ⟨0, Nat.zero_le _, rfl, Nat.zero_le _, rfl, Below.refl _ _⟩
  case round =>
    obtain ⟨k, hkl, rfl, hkr, rfl, hbW⟩ := hrel
    have hszw := hbW.size
    by_cases hlt : k < zs.length
    · have hc := (hbW.cell (p := ⟨b, off + k, none⟩) hbw).trans (HCELL.out k hlt)
      have hstep := rightLen_step zs k hkr hlt
      have hnat : (nats zs)[k]? = some (zs.getD k 0).toNat := by
        unfold nats
        rw [List.getElem?_map, List.getElem?_eq_getElem hlt]
        simp [List.getD, hlt]
      generalize zs.getD k 0 = z at *
      have hkI : (k : Int) < (zs.length : Int) := by omega
      have cR := Lib.hid (fun W => ref_Right z W)
      have hsn := basicL_snoc hnat
      have hlb : (basicL ((nats zs).take k)).length ≤ 256 := by
        rw [basicL_len]
        refine Nat.le_trans (List.length_filter_le _ _) ?_
        rw [List.length_take]; omega
      generalize basicL ((nats zs).take k) = acc at *
      have HBW := Lib.hid hbW
      have hsz := ba_size acc
      cases hr : rightB z with
      | false =>
        have HE := Lib.hid (HBADE.out k (hstep.2 hr) hlt)
        rw [hr] at cR
        clear hstep hnat hsn hr hbW
        go_wp2_with fail
        refine (cR.out _).mono ?_
        rintro e w2 ⟨rfl, hw2⟩
        obtain rfl := hw2
        go_wp2_with fail
        go_ret3
        exact ⟨HBW.out, .inl ⟨16, k, HE.out, by decide, rfl⟩⟩
      | true =>
        have hnx := hstep.1 hr
        obtain ⟨c, rfl, hcR, _⟩ := right_nat hr
        rw [hr] at cR
        rw [Int.toNat_natCast] at hsn
        clear hstep hnat hr hbW
        by_cases hc128 : c < 128
        · rw [if_pos hc128] at hsn
          have HSN := Lib.hid hsn
          have hcI : (c : Int) < 128 := by omega
          have hcv := one_byte wr c hc128
          have hsz1 : (⟨#[UInt8.ofNat c]⟩ : ByteArray).size = 1 := rfl
          have hap := ba_snoc acc (UInt8.ofNat c)
          have HAP := Lib.hid hap
          generalize (⟨#[UInt8.ofNat c]⟩ : ByteArray) = cb at *
          clear hsn hap
          go_wp2_with fail
          refine (cR.out _).mono ?_
          rintro e w2 ⟨rfl, hw2⟩
          obtain rfl := hw2
          go_wp2_with fail
          go_roundw
          case rel => exact ⟨k + 1, by omega, by go_num, hnx, by rw [HSN.out, ← HAP.out], HBW.out.alloc hszw _⟩
          case measure => simp [intOf]; omega
        · rw [if_neg hc128] at hsn
          have HSN := Lib.hid hsn
          have hcI : ¬ (c : Int) < 128 := by omega
          clear hsn
          go_wp2_with fail
          refine (cR.out _).mono ?_
          rintro e w2 ⟨rfl, hw2⟩
          obtain rfl := hw2
          go_wp2_with fail
          go_roundw
          case rel => exact ⟨k + 1, by omega, by go_num, hnx, by rw [HSN.out], HBW.out⟩
          case measure => simp [intOf]; omega
    · obtain rfl : k = zs.length := by omega
      have hall : rightLen zs = zs.length := by omega
      have HOK := Lib.hid (HOKE.out hall)
      have hright := right_all zs hall
      rw [← nats_len zs, List.take_length]
      rw [nats_len]
      have hzc : ∀ j, j < zs.length → ∃ c, (nats zs)[j]? = some c ∧ zs.getD j 0 = (c : Int) ∧ c ≤ 1114111 := fun j hj => by
        have h1 : (nats zs)[j]? = some (zs.getD j 0).toNat := by
          unfold nats
          rw [List.getElem?_map, List.getElem?_eq_getElem hj]
          simp [List.getD, hj]
        have h2 := rightC_lt (hright _ (List.mem_of_getElem? h1))
        have h3 : 0 ≤ zs.getD j 0 := by
          have := (rightLen_step zs j (by omega) hj).2
          cases hr : rightB (zs.getD j 0) with
          | true => obtain ⟨c, e, _⟩ := right_nat hr; omega
          | false => have := this hr; omega
        exact ⟨_, h1, by omega, by omega⟩
      have hzs : zs = (nats zs).map fun c : Nat => (c : Int) := by
        apply List.ext_getElem
        · simp [nats_len]
        · intro j h1 h2
          obtain ⟨c, e1, e2, _⟩ := hzc j h1
          have e3 : (nats zs)[j]'(by rw [nats_len]; exact h1) = c := by
            have := List.getElem?_eq_some_iff.1 e1
            exact this.2
          simp only [List.getElem_map, e3]
          simpa [List.getD, h1] using e2
      have hcslen := nats_len zs
      have hENC : encN (nats zs) = (encR (nats zs) (basicL (nats zs)).length (markL (nats zs)) 128 ⟨0, 72, (basicL (nats zs)).length, basicO (nats zs)⟩).out := rfl
      have hPI := PInv.zero (nats zs) (by omega)
      have hbo : basicO (nats zs) = if (basicL (nats zs)).length = 0 then [] else basicL (nats zs) ++ [45] := rfl
      have hob : (basicL (nats zs)).length ≤ 256 := by
        rw [basicL_len]
        exact Nat.le_trans (List.length_filter_le _ _) (by omega)
      have hbase : (basicL (nats zs)).length = 0 → basicL (nats zs) = [] := List.eq_nil_of_length_eq_zero
      have hnil : (basicL (nats zs)).length = 0 → basicO (nats zs) = basicL (nats zs) := fun h => by rw [hbo, if_pos h, hbase h]
      have hcons : (basicL (nats zs)).length ≠ 0 → basicO (nats zs) = basicL (nats zs) ++ [45] := fun h => by rw [hbo, if_neg h]
      have hmup := markL_up (nats zs)
      have hmem := markL_mem (nats zs)
      have hbst := fun (ms : List Nat) (n : Nat) hp hm => best_head (cs := nats zs) (ms := ms) (n := n) hzs hp hm
      have hcle : ∀ c ∈ nats zs, c ≤ 1114111 := fun c hc => by have := rightC_lt (hright c hc); omega
      generalize nats zs = cs at *
      have HENC := Lib.hid hENC
      have HZC := Lib.hid hzc
      have HPI := Lib.hid hPI
      have HNIL := Lib.hid hnil
      have HCONS := Lib.hid hcons
      have HBW := Lib.hid hbW
      have HUP := Lib.hid hmup
      have HMEM := Lib.hid hmem
      have HBST := Lib.hid hbst
      have HCLE := Lib.hid hcle
      have hsz := ba_size (basicL cs)
      have cN0 := Lib.hid (fun (ms : List Nat) (n : Nat) W hW hp hm => (hbst ms n hp hm) ▸ ref09_next _ zs n W (HSL.out.below hW) (by omega))
      clear hENC hzc hPI hnil hcons hbo hbase hright hall hzs hrl hkl hkr HOKE HBADE hbW hmup hmem hbst hcle
      generalize hbl : basicL cs = bl at *
      have HBL := Lib.hid hbl
      clear hbl
      generalize hbl0 : bl.length = nb at *
      by_cases hb0 : nb = 0
      all_goals
        first
          | (have hbs := HNIL.out hb0
             have hbI : ¬ (nb : Int) > 0 := by omega)
          | (have hbs := HCONS.out hb0
             have hbI : (nb : Int) > 0 := by omega)
        have hap := ba_snoc bl 45
        have HAP := Lib.hid hap
        have HBS := Lib.hid hbs
        have HB0 := Lib.hid hb0
        clear hap hbs hb0
        generalize hw2 : wr = w2 at *
        have cN1 := Lib.hid (cN0.out (markL cs) 128 w2 HBW.out HUP.out HMEM.out)
        clear hw2
        go_wp2_with fail
        refine cN1.out.mono ?_
        rintro e w3 ⟨rfl, q3, hq3⟩
        have HB3 := Lib.hid (show Below w.heap.size w w3 by rw [← hq3]; exact below_drewN HBW.out q3)
        clear hq3 cN1
        go_wp2_with fail
        go_loopw [5, 7, 9, 10, 11, 12] (fun ov hv bv dv nv mv wr => ∃ (n : Nat) (ms : List Nat) (s : PStp), ov = .string ⟨s.out.toArray⟩ ∧ hv = .int .i64 s.h ∧ bv = .int .i64 s.bias ∧ dv = .int .i64 s.delta ∧ nv = .int .i64 n ∧ mv = .int .i64 (headZ ms) ∧ n ≤ 1114112 ∧ ms.Pairwise (· < ·) ∧ (∀ x, x ∈ ms ↔ x ∈ cs ∧ n ≤ x) ∧ PInv cs n s ∧ encR cs nb ms n s = encR cs nb (markL cs) 128 ⟨0, 72, nb, basicO cs⟩ ∧ Below w.heap.size w wr) (fun _ _ _ _ _ mv _ => measZ (intOf mv))
        case atStart => exact ⟨128, markL cs, ⟨0, 72, nb, basicO cs⟩, by first | (rw [HBS.out]; done) | (rw [HBS.out, HAP.out]; done) | (rw [HBS.out]; exact congrArg Value.string HAP.out), rfl, rfl, rfl, rfl, rfl, by decide, HUP.out, HMEM.out, HPI.out, rfl, HB3.out⟩
        case round =>
          obtain ⟨n, ms, s, rfl, rfl, rfl, rfl, rfl, rfl, hn, hmp, hmm, hPI, hgo, hbr⟩ := hrel
          have hsr := hbr.size
          cases ms with
          | nil =>
            have hfin : s = encR cs nb (markL cs) 128 ⟨0, 72, nb, basicO cs⟩ := hgo
            have hout : encN cs = s.out := by rw [HENC.out, ← hfin]
            have HOUT := Lib.hid hout
            have hhd : headZ [] = -1 := rfl
            clear hgo hfin hout hPI hmp hmm
            go_wp2_with fail
            go_ret3
            exact ⟨hbr, .inr ⟨s.out, by rw [HOK.out, HOUT.out], rfl⟩⟩
          | cons m ms =>
            have hmp' := List.pairwise_cons.1 hmp
            obtain ⟨hmc, hnm⟩ := (hmm m).1 (by simp)
            have hm1 := HCLE.out m hmc
            have hhd : headZ (m :: ms) = (m : Int) := rfl
            have hmm2 : ∀ x, x ∈ ms ↔ x ∈ cs ∧ m + 1 ≤ x := fun x => by
              constructor
              · intro hx
                exact ⟨((hmm x).1 (by simp [hx])).1, by have := hmp'.1 x hx; omega⟩
              · rintro ⟨hx, h⟩
                rcases List.mem_cons.1 ((hmm x).2 ⟨hx, by omega⟩) with e | e
                · omega
                · exact e
            have hPS := hPI.start (by omega) hnm
            have hh := hPI.2.2.1
            have hhl : (cs.filter fun c => decide (c < n)).length ≤ cs.length := List.length_filter_le _ _
            have hdel := mul_int s.delta m n s.h hnm (by have := hPI.1; omega) hm1 (by omega)
            have hhb : s.h ≤ 256 := by omega
            have HDEL := Lib.hid (congrArg (Value.int .i64) hdel)
            have HGO := Lib.hid hgo
            have HPS := Lib.hid hPS
            have HMP := Lib.hid hmp'.2
            have HMM := Lib.hid hmm2
            have HBR := Lib.hid hbr
            have HGT := Lib.hid hmp'.1
            have hmpos : (m : Int) ≥ 0 := by omega
            rw [hhd]
            clear hgo hbr hPI hPS hdel hh hhl hmp hmp' hmm hmm2 hhd hmc
            go_wp2_with fail
            generalize hwz : wr = wz at *
            clear hwz
            go_loopw [5, 7, 9, 10, 13] (fun ov hv bv dv iv wi => ∃ (k : Nat) (u : PStp), k ≤ zs.length ∧ u = roundK cs nb m n s k ∧ iv = .int .i64 k ∧ bv = .int .i64 u.bias ∧ dv = .int .i64 u.delta ∧ hv = .int .i64 u.h ∧ ov = .string ⟨u.out.toArray⟩ ∧ PIn cs m k u ∧ Below w.heap.size w wi) (fun _ _ _ _ iv _ => zs.length - (intOf iv).toNat)
            case atStart => exact ⟨0, roundK cs nb m n s 0, Nat.zero_le _, rfl, rfl, rfl, HDEL.out, rfl, rfl, HPS.out, HBR.out⟩
            case round =>
              obtain ⟨k, u, hkl, hu, rfl, rfl, rfl, rfl, rfl, hPk, hbu⟩ := hrel
              by_cases hltk : k < zs.length
              · have hc := (hbu.cell (p := ⟨b, off + k, none⟩) hbw).trans (HCELL.out k hltk)
                obtain ⟨c, hcs, hzk, hcm1⟩ := HZC.out k hltk
                rw [hzk] at hc
                have hkI : (k : Int) < (zs.length : Int) := by omega
                have hPn := hPk.step (basic := nb) hm1 (by omega) hcs
                have hun : roundK cs nb m n s (k + 1) = stepC m nb u c := by rw [hu]; exact roundK_succ hcs
                have hud := hPk.1
                have hub := hPk.2.1
                have huh := hPk.h_le
                have huo := hPk.2.2.2
                have HPN := Lib.hid hPn
                have HUN := Lib.hid hun
                have HBUk := Lib.hid hbu
                clear hPn hun hbu hPk hu hzk hcs
                by_cases hcm2 : c < m
                · have hst : stepC m nb u c = ⟨u.delta + 1, u.bias, u.h, u.out⟩ := by unfold stepC; rw [if_pos hcm2]
                  rw [hst] at HPN HUN
                  have hcI : (c : Int) < (m : Int) := by omega
                  have hcJ : ((c : Int) == (m : Int)) = false := by rw [beq_eq_false_iff_ne]; omega
                  clear hst
                  go_wp2_with fail
                  go_roundw
                  case rel => exact ⟨k + 1, ⟨u.delta + 1, u.bias, u.h, u.out⟩, by omega, HUN.out.symm, by go_num, rfl, by go_num, rfl, rfl, HPN.out, HBUk.out⟩
                  case measure => simp [intOf]; omega
                · by_cases hcm3 : c = m
                  · subst hcm3
                    have hst : stepC c nb u c = ⟨0, adaptN u.delta (u.h + 1) (decide (u.h = nb)), u.h + 1, u.out ++ numD u.delta u.bias⟩ := by unfold stepC; rw [if_neg hcm2, if_pos rfl]
                    rw [hst] at HPN HUN
                    have hnl := numD_len (n := u.delta) (b := u.bias) (by omega)
                    have cW := Lib.hid (fun W => ref09_written u.delta u.bias W (by omega) (by omega))
                    have cA' : ∀ W, Calls Tryz.prog 200 #[.int .i64 (u.delta : Int), .int .i64 ((u.h : Int) + 1), .bool ((u.h : Int) == (nb : Int))] W fun e w' => e = .returned (.int .i64 ((adaptN u.delta (u.h + 1) (decide (u.h = nb)) : Nat) : Int)) ∧ W = w' := fun W => by
                      have := ref_Adapt (u.delta : Int) ((u.h + 1 : Nat) : Int) ((u.h : Int) == (nb : Int)) W (by omega) (by omega)
                      rw [adaptZ_nat _ _ _ (by omega)] at this
                      rw [beq_dec] at this ⊢
                      simpa using this
                    have CA := Lib.hid cA'
                    have hap := ba_app u.out (numD u.delta u.bias)
                    have HAP := Lib.hid hap
                    have hs1 := ba_size u.out
                    have hs2 := ba_size (numD u.delta u.bias)
                    clear hst cA' hap
                    generalize adaptN u.delta (u.h + 1) (decide (u.h = nb)) = ad at *
                    generalize numD u.delta u.bias = nd at *
                    have hs1b : (⟨u.out.toArray⟩ : ByteArray).size ≤ 5000 := by omega
                    have hs2b : (⟨nd.toArray⟩ : ByteArray).size ≤ 5000 := by omega
                    clear hs1 hs2
                    go_wp2_with fail
                    refine (cW.out _).mono ?_
                    rintro e w8 ⟨rfl, q8, hq8⟩
                    have HB8 := Lib.hid (show Below w.heap.size w w8 by rw [← hq8]; exact below_drewN HBUk.out q8)
                    clear hq8
                    go_wp2_with fail
                    refine (CA.out _).mono ?_
                    rintro e w9 ⟨rfl, hw9⟩
                    obtain rfl := hw9
                    go_wp2_with fail
                    go_roundw
                    case rel => exact ⟨k + 1, ⟨0, ad, u.h + 1, u.out ++ nd⟩, by omega, HUN.out.symm, by go_num, rfl, rfl, by go_num, by rw [HAP.out], HPN.out, HB8.out⟩
                    case measure => simp [intOf]; omega
                  · have hst : stepC m nb u c = u := by unfold stepC; rw [if_neg hcm2, if_neg hcm3]
                    rw [hst] at HPN HUN
                    have hcI : ¬ (c : Int) < (m : Int) := by omega
                    have hcJ : ((c : Int) == (m : Int)) = false := by rw [beq_eq_false_iff_ne]; omega
                    clear hst
                    go_wp2_with fail
                    go_roundw
                    case rel => exact ⟨k + 1, u, by omega, HUN.out.symm, by go_num, rfl, rfl, rfl, rfl, HPN.out, HBUk.out⟩
                    case measure => simp [intOf]; omega
              · obtain rfl : k = zs.length := by omega
                have hkI : ¬ (zs.length : Int) < (zs.length : Int) := by omega
                rw [← hcslen, roundK_all] at hu
                rw [← hcslen] at hPk
                have hnx := hPk.next (by omega)
                have hud := hPk.1
                have hgo2 : encR cs nb ms (m + 1) (nextC u) = encR cs nb (markL cs) 128 ⟨0, 72, nb, basicO cs⟩ := by rw [hu]; exact HGO.out
                have HGO2 := Lib.hid hgo2
                have HNX := Lib.hid hnx
                have cN1 := cN0.out ms (m + 1) wr hbu HMP.out HMM.out
                rw [show ((m + 1 : Nat) : Int) = (m : Int) + 1 by simp] at cN1
                have CN1 := Lib.hid cN1
                have HBU2 := Lib.hid hbu
                clear hgo2 hnx hbu hPk hu cN1
                go_wp2_with fail
                refine CN1.out.mono ?_
                rintro e w7 ⟨rfl, q7, hq7⟩
                have HB7 := Lib.hid (show Below w.heap.size w w7 by rw [← hq7]; exact below_drewN HBU2.out q7)
                clear hq7 CN1
                go_wp2_with fail
                go_roundw
                case rel => exact ⟨m + 1, ms, nextC u, rfl, rfl, rfl, by unfold nextC; dsimp only; go_num, by go_num, rfl, by omega, HMP.out, HMM.out, HNX.out, HGO2.out, HB7.out⟩
                case measure => exact meas_next HGT.out hm1
theorem ref09_Encode (x : Value) (zs : List Int) (w : World) (hx : IntsSl w x zs) (hz : zs.length ≤ 9223372036854775807) : Calls Tryz.prog 176 #[x] w (REncPost zs w) := by
  by_cases h0 : zs = []
  · subst h0
    obtain ⟨a, cap, rfl⟩ : ∃ a cap, x = .slice a 0 cap := by
      rcases hx with ⟨_, a, cap, e⟩ | ⟨b, off, cap, e, _⟩
      · exact ⟨a, cap, e⟩
      · exact ⟨_, _, e⟩
    have cN := Lib.hid (fun W => ref09_next (.slice a 0 cap) [] 128 W (.inl ⟨rfl, _, _, rfl⟩) (by decide))
    have hb : bestZ ((128 : Nat) : Int) [] = -1 := rfl
    rw [hb] at cN
    have HE := Lib.hid (show encE [] = .ok [] from rfl)
    clear hx hb
    go_enter Tryz.func176, Tryz.ntmps176
    go_wp2_with fail
    refine wp_loop_rounds 1 ?_
    rw [rounds_succ]
    go_wp2_with fail
    refine (cN.out _).mono ?_
    rintro e w3 ⟨rfl, q3, hq3⟩
    have hb3 : Below w.heap.size w w3 := by rw [← hq3]; exact below_drewN (Below.refl _ _) q3
    clear hq3
    go_wp2_with fail
    refine wp_loop_rounds 1 ?_
    rw [rounds_succ]
    go_wp2_with fail
    go_ret3
    exact ⟨hb3, .inr ⟨[], HE.out, rfl⟩⟩
  · have hne : 0 < zs.length := by cases zs with | nil => exact absurd rfl h0 | cons _ _ => simp
    rcases hx with ⟨h, _⟩ | ⟨b, off, cap, rfl, hcap, hcm, hbw, hcell⟩
    · exact absurd h h0
    · by_cases hlong : 256 < zs.length
      · have HE := Lib.hid (encE_long hlong)
        have hlI : (zs.length : Int) > 256 := by omega
        clear hcell hlong
        go_enter Tryz.func176, Tryz.ntmps176
        go_wp2_with fail
        go_ret3
        exact ⟨Below.refl _ _, .inl ⟨14, 256, HE.out, by decide, rfl⟩⟩
      · exact ref09_Encode1 b off cap zs w hne (by omega) hcap hcm hbw hcell
end Go.Proofs.YtibhohpamnpkcaaGreatDoor
