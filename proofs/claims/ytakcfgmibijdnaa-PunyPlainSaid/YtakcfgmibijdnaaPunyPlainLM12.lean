/- A call's own bytes, as a string. -/
import Derived.Test.YtakcfgmibijdnaaPunyPlainLM10
import Derived.Laws.BytesArg
import Derived.Test.YtakcfgmibijdnaaPunyPlainLM11

namespace Go.Proofs.Ytakcfgmibijdnaa
open Go.RowKit

theorem BytesSl.conv {w : World} {a : Option Addr} {len cap : Nat} {s : ByteArray} (h : BytesSl w (.slice a len cap) s) : (convert 22 9 (.slice a len cap)).run Try.prog w = .ok (.string s) w := by
  rcases h with ⟨h0, a', cap', e⟩ | ⟨b, off, cap', e, h1, h2, h3, h4⟩
  · cases e
    have hs : s = ⟨#[]⟩ := by
      apply ByteArray.ext
      apply Array.eq_empty_of_size_eq_zero
      exact h0
    subst hs
    cases a with
    | none =>
      exact run_convert_bytes_nil w 22 5 Try.underlying22 Try.underlying5 0 cap 9 Try.underlying9
    | some ad =>
      have := run_convert_bytes_back (P := Try.prog) w 22 9 5 ad cap [] Try.underlying22 Try.underlying5 Try.underlying9 (fun j hj => by simp at hj)
      exact this
  · cases e
    have := run_convert_bytes_back (P := Try.prog) w 22 9 5 ⟨b, off, none⟩ cap s.data.toList Try.underlying22 Try.underlying5 Try.underlying9 (fun j hj => by
      have hj' : j < s.size := hj
      rw [Addr.add_lit, h4 j hj']
      simp [byteAt, List.getD, List.getElem?_eq_getElem hj])
    exact this
theorem OwnB.conv {w : World} {base : Nat} {v : Value} {l : List UInt8} (h : OwnB w base v l) : (convert 22 9 v).run Try.prog w = .ok (.string ⟨l.toArray⟩) w := by
  rcases h.shape with ⟨rfl, rfl⟩ | ⟨g, cap, rfl, h1, h2, h3, h4⟩
  · exact BytesSl.conv h.sl
  · exact BytesSl.conv h.sl
end Go.Proofs.Ytakcfgmibijdnaa

/- The walk of PunyPlain. -/
namespace Go.Proofs.Ytakcfgmibijdnaa
open Go.RowKit

set_option maxHeartbeats 1600000 in
theorem punyPlain_long (a a2 : Option Addr) (n cap n2 cap2 : Nat) (w : World) (h : 200 < n ∨ n = 0 ∨ 100 < n2) : Calls Try.prog 3 #[.slice a n cap, .slice a2 n2 cap2] w fun e w' => e = .returned (.bool true) ∧ Below w.heap.size w w' := by
  by_cases h1 : (n : Int) > 200
  · go_enter Try.func3, Try.ntmps3
    go_wp2_with fail
    refine (speaks09 _).mono ?_
    rintro e w1 ⟨rfl, hb1⟩
    go_wp2_with fail
    go_ret
    exact ⟨rfl, hb1⟩
  by_cases h2 : n = 0
  · have h2I : ((n : Int) == 0) = true := by rw [h2]; rfl
    clear h2 h
    go_enter Try.func3, Try.ntmps3
    go_wp2_with fail
    refine (speaks09 _).mono ?_
    rintro e w1 ⟨rfl, hb1⟩
    go_wp2_with fail
    go_ret
    exact ⟨rfl, hb1⟩
  have h2I : ((n : Int) == 0) = false := by rw [beq_eq_false_iff_ne]; omega
  have h3 : (n2 : Int) > 100 := by omega
  clear h2 h
  go_enter Try.func3, Try.ntmps3
  go_wp2_with fail
  refine (speaks09 _).mono ?_
  rintro e w1 ⟨rfl, hb1⟩
  go_wp2_with fail
  go_ret
  exact ⟨rfl, hb1⟩

set_option maxHeartbeats 12800000 in
set_option maxRecDepth 100000 in
theorem punyPlain_walk (x y : Value) (s : ByteArray) (zs : List Int) (pa pb : Option Addr) (ca cb : Nat) (e0 : x = .slice pa s.size ca) (e1 : y = .slice pb zs.length cb) (hs : s.size ≤ 200) (hs0 : 0 < s.size) (hl : zs.length ≤ 100) (w : World) (hx : BytesSl w x s) (hy : IntsSl w y zs) :
    Calls Try.prog 3 #[x, y] w fun e w' => e = .returned (.bool true) ∧ Below w.heap.size w w' := by
  subst e0
  subst e1
  have hsI : ¬ (s.size : Int) > 200 := by omega
  have hs0I : ((s.size : Int) == 0) = false := by rw [beq_eq_false_iff_ne]; omega
  have hlI : ¬ (zs.length : Int) > 100 := by omega
  have c4 := Lib.hid (fun v u l W h h2 hh => ref05_Same v u l W h h2 hh)
  have c6 := Lib.hid (fun s W => puny_Decode s W)
  have hsm : ∀ c ∈ asc s s.size, c < 128 := fun c hc => asc_lt hc
  have hE1 := enc_nats (l := asc s s.size) (fun c hc => small_right (hsm c hc)) (by rw [asc_len]; omega)
  obtain ⟨hE2, hE3⟩ := enc_small hsm (by intro e; have hz : (asc s s.size).length = 0 := by { rw [e]; rfl }; rw [asc_len] at hz; omega)
  rw [asc_len] at hE3
  have hD1 := dec_encN (asc s s.size) (fun c hc => small_right (hsm c hc)) (by rw [asc_len]; omega) (by rw [hE2, List.length_append, hE3]; simp; omega)
  rw [hE2] at hE1 hD1
  have hwl := wideZ_len zs
  have hwm : ∀ c ∈ wideZ zs, rightB (c : Int) = true ∧ 128 ≤ c := fun c hc => wideZ_mem hc
  have hE4 := enc_nats (l := wideZ zs) (fun c hc => (hwm c hc).1) (by omega)
  have hD2 := dec_great hwm (by omega)
  have htl := encN_len (cs := wideZ zs) (by omega) (fun c hc => (hwm c hc).1)
  have HTL := Lib.hid htl
  have HE1 := Lib.hid hE1
  have HD1 := Lib.hid hD1
  have HE4 := Lib.hid hE4
  have HD2 := Lib.hid hD2
  have HX := Lib.hid hx
  have HY := Lib.hid hy
  have HAL := Lib.hid (asc_len s)
  have HWL := Lib.hid hwl
  clear hE1 hD1 hE4 hD2 hsm hwm hE2 hx hy hwl htl
  go_enter Try.func3, Try.ntmps3
  go_wp2_with fail
  refine (speaks09 _).mono ?_
  rintro e w1 ⟨rfl, hb1⟩
  have hs1 := hb1.size
  go_wp2_with fail
  go_loopw [5, 39] (fun v i wr => ∃ k : Nat, k ≤ s.size ∧ i = .int .i64 k ∧ OwnN wr w1.heap.size v (asc s k) ∧ Below w1.heap.size w1 wr) (fun _ i _ => s.size - (intOf i).toNat)
  case atStart => exact ⟨0, Nat.zero_le _, rfl, OwnN.lit0 w1 _ (Nat.le_refl _), (Below.refl _ _).alloc (Nat.le_refl _) _⟩
  case round =>
    obtain ⟨k, hk, rfl, hown, hbr⟩ := hrel
    have hrs := hbr.size
    by_cases hlt : k < s.size
    · obtain ⟨h0, _⟩ | ⟨b, off, cap, hv, hc1, hc2, hbs, hp⟩ := (HX.out.below (Bt hb1 hbr))
      · omega
      · cases hv
        have hc := hp k hlt
        have hsu := asc_succ s k
        have hal := HAL.out k
        have hand := and_127 (byteAt s k)
        generalize byteAt s k = c at *
        have hbf : Below wr.heap.size wr (wr.alloc (.cells #[.int .i64 (((c.toNat % 128 : Nat)) : Int)] 3)) := (Below.refl _ _).alloc (Nat.le_refl _) _
        have hown2 := hown.below hbf
        have hy2 : (wr.alloc (.cells #[.int .i64 (((c.toNat % 128 : Nat)) : Int)] 3)).heap[wr.heap.size]? = some (.cells #[intV (c.toNat % 128)] 3 (0, 0)) := heap_alloc_new wr _
        have hA1 : (asc s k).length ≤ 1073741824 := by omega
        have hA2 : w1.heap.size ≤ (wr.alloc (.cells #[.int .i64 (((c.toNat % 128 : Nat)) : Int)] 3)).heap.size := by simp; omega
        have hm := Nat.mod_lt c.toNat (show 0 < 128 by decide)
        generalize c.toNat % 128 = m at *
        have HSU := Lib.hid hsu
        have HBR := Lib.hid hbr
        have hkI : (k : Int) < (s.size : Int) := by omega
        unfold maxLen at hc2
        clear hsu hown hbr hp hal
        go_wp2_with (at_builtin; go_loud (refine wpList_app_nat rfl _ _ rfl w1.heap.size _ _ rfl hown2 wr.heap.size 1 m rfl hy2 hA1 hA2 ?_))
        intro v4 w4 hown4 hg4
        have hb4 := hown2.under (HBR.out.trans (hbf.mono hrs)) (Nat.le_refl _) hg4
        rw [← HSU.out] at hown4
        clear hown2 hbf hy2 hg4 hc
        go_wp2_with fail
        go_roundw
        case rel => exact ⟨k + 1, by omega, by go_num, hown4, hb4⟩
        case measure => simp [intOf]; omega
    · obtain rfl : k = s.size := by omega
      have hkI : ¬ (s.size : Int) < (s.size : Int) := by omega
      have HY2 := Lib.hid ((HY.out.below hb1).below hbr)
      have HO := Lib.hid hown
      have cE := Lib.hid (puny_Encode _ _ wr hown.sl (by rw [intsN_len, asc_len]; omega))
      have HBW := Lib.hid (Bt hb1 hbr)
      clear hown hbr hb1
      have hal0 : (intsN (asc s s.size)).length ≤ 1000000 := by rw [intsN_len, asc_len]; omega
      generalize asc s s.size = ac at *
      go_wp2_with fail
      refine cE.out.mono ?_
      rintro e w3 ⟨hb3, h3⟩
      have HBW3 := Lib.hid (Bt HBW.out hb3)
      have HY3 := Lib.hid (HY2.out.below hb3)
      have HO3 := Lib.hid (HO.out.below hb3)
      clear hb3
      rcases h3 with ⟨_, _, _, hE, _⟩ | ⟨l1, hE, rfl⟩
      · rw [HE1.out] at hE; cases hE
      rw [HE1.out] at hE
      obtain rfl : basicL ac ++ [45] = l1 := by cases hE; rfl
      have hSz : (⟨(basicL ac ++ [45]).toArray⟩ : ByteArray).size = s.size + 1 := by
        show (basicL ac ++ [45]).toArray.size = _
        simp [hE3]
      have hSa : ∀ h : s.size < (⟨(basicL ac ++ [45]).toArray⟩ : ByteArray).size, (⟨(basicL ac ++ [45]).toArray⟩ : ByteArray)[s.size]'h = 45 := fun h => by
        have : (basicL ac ++ [45])[s.size]'(by rw [List.length_append, hE3]; simp) = 45 := by
          rw [List.getElem_append_right (by omega)]
          simp [hE3]
        exact this
      have cD := Lib.hid (fun W => c6.out ⟨(basicL ac ++ [45]).toArray⟩ W)
      generalize (⟨(basicL ac ++ [45]).toArray⟩ : ByteArray) = ST at *
      have hSlt : s.size < ST.size := by omega
      have hSltI : (s.size : Int) < (ST.size : Int) := by omega
      have n1 : ((ST.size : Int) != (s.size : Int) + 1) = false := by rw [hSz]; simp
      have n2 : ((ST[s.size].toNat : Int) != 45) = false := by rw [hSa hSlt]; rfl
      clear hE hSz hSa hE3
      go_wp2_with fail
      refine (cD.out _).mono ?_
      rintro e w4 ⟨hb4, h4⟩
      have HBW4 := Lib.hid (Bt HBW3.out hb4)
      have HY4 := Lib.hid (HY3.out.below hb4)
      have HO4 := Lib.hid (HO3.out.below hb4)
      clear hb4
      rcases h4 with ⟨_, _, _, hE, _⟩ | ⟨l1, v4, hE, rfl, hown4⟩
      · rw [HD1.out] at hE; cases hE
      rw [HD1.out] at hE
      obtain rfl : ac = l1 := by cases hE; rfl
      have HSL4 := Lib.hid hown4.sl
      obtain ⟨va, vc, rfl⟩ := row_len hown4
      clear hE hown4
      go_wp2_with fail
      refine (c4.out _ _ (intsN ac) _ HSL4.out HO4.out.sl hal0).mono ?_
      rintro e w5 ⟨rfl, q5, hq5⟩
      have hbq : Below w4.heap.size w4 w5 := by rw [← hq5]; exact below_drewN (Below.refl _ _) q5
      have HBW5 := Lib.hid (Bt HBW4.out hbq)
      have HY5 := Lib.hid (HY4.out.below hbq)
      clear hq5 hbq HSL4 HO4 HO3 HO HY4 HY3 HY2 HBW4 HBW3 HBW
      go_wp2_with fail
      go_loopw [11, 90] (fun v i wr => ∃ k : Nat, k ≤ zs.length ∧ i = .int .i64 k ∧ OwnN wr w5.heap.size v (wideZ (zs.take k)) ∧ Below w5.heap.size w5 wr) (fun _ i _ => zs.length - (intOf i).toNat)
      case atStart => exact ⟨0, Nat.zero_le _, rfl, OwnN.lit0 w5 _ (Nat.le_refl _), (Below.refl _ _).alloc (Nat.le_refl _) _⟩
      case round =>
        obtain ⟨k, hk, rfl, hown, hbr⟩ := hrel
        have hrs := hbr.size
        by_cases hlt : k < zs.length
        · obtain ⟨h0, _⟩ | ⟨b, off, cap, hv, hc1, hc2, hbs, hp⟩ := (HY5.out.below hbr)
          · rw [h0] at hlt; exact absurd hlt (Nat.not_lt_zero _)
          · cases hv
            have hc := hp k hlt
            have hsn : wideZ (zs.take (k + 1)) = if rightB (zs.getD k 0) = true ∧ 128 ≤ zs.getD k 0 then wideZ (zs.take k) ++ [(zs.getD k 0).toNat] else wideZ (zs.take k) := by
              rw [List.take_succ_eq_append_getElem hlt, wideZ_snoc]
              simp [List.getD, hlt]
            have hwl2 : (wideZ (zs.take k)).length ≤ 100 := by have := wideZ_len (zs.take k); rw [List.length_take] at this; omega
            generalize zs.getD k 0 = z at *
            have cR := Lib.hid (fun W => ref_Right z W)
            have HSN := Lib.hid hsn
            have HOW := Lib.hid hown
            have HBR := Lib.hid hbr
            have hkI : (k : Int) < (zs.length : Int) := by omega
            unfold maxLen at hc2
            clear hsn hown hbr hp
            cases hr : rightB z with
            | false =>
              rw [hr] at cR
              have hs2 := HSN.out
              rw [if_neg (by rw [hr]; intro h; cases h.1)] at hs2
              have HS2 := Lib.hid hs2
              clear hs2 hr
              go_wp2_with fail
              refine (cR.out _).mono ?_
              rintro e w6 ⟨rfl, hw6⟩
              obtain rfl := hw6
              go_wp2_with fail
              go_roundw
              case rel => exact ⟨k + 1, by omega, by go_num, by rw [HS2.out]; exact HOW.out, HBR.out⟩
              case measure => simp [intOf]; omega
            | true =>
              obtain ⟨m, rfl, _, hm2⟩ := right_nat hr
              rw [hr] at cR
              by_cases h128 : (128 : Int) ≤ (m : Int)
              · have hs2 := HSN.out
                rw [if_pos ⟨hr, h128⟩, Int.toNat_natCast] at hs2
                have HS2 := Lib.hid hs2
                have h128I : (m : Int) ≥ 128 := h128
                have hbf : Below wr.heap.size wr (wr.alloc (.cells #[.int .i64 (m : Int)] 3)) := (Below.refl _ _).alloc (Nat.le_refl _) _
                have hown2 := HOW.out.below hbf
                have hy2 : (wr.alloc (.cells #[.int .i64 (m : Int)] 3)).heap[wr.heap.size]? = some (.cells #[intV m] 3 (0, 0)) := heap_alloc_new wr _
                have hA1 : (wideZ (zs.take k)).length ≤ 1073741824 := by omega
                have hA2 : w5.heap.size ≤ (wr.alloc (.cells #[.int .i64 (m : Int)] 3)).heap.size := by simp; omega
                clear hs2 hr h128
                go_wp2_with fail
                refine (cR.out _).mono ?_
                rintro e w6 ⟨rfl, hw6⟩
                obtain rfl := hw6
                go_wp2_with (at_builtin; go_loud (refine wpList_app_nat rfl _ _ rfl w5.heap.size _ _ rfl hown2 wr.heap.size 1 m rfl hy2 hA1 hA2 ?_))
                intro v4 w4 hown4 hg4
                have hb4 := hown2.under (HBR.out.trans (hbf.mono hrs)) (Nat.le_refl _) hg4
                rw [← HS2.out] at hown4
                clear hown2 hbf hy2 hg4 hc
                go_wp2_with fail
                go_roundw
                case rel => exact ⟨k + 1, by omega, by go_num, hown4, hb4⟩
                case measure => simp [intOf]; omega
              · have hs2 := HSN.out
                rw [if_neg (by intro h; exact h128 h.2)] at hs2
                have HS2 := Lib.hid hs2
                have h128I : ¬ (m : Int) ≥ 128 := h128
                clear hs2 hr h128
                go_wp2_with fail
                refine (cR.out _).mono ?_
                rintro e w6 ⟨rfl, hw6⟩
                obtain rfl := hw6
                go_wp2_with fail
                go_roundw
                case rel => exact ⟨k + 1, by omega, by go_num, by rw [HS2.out]; exact HOW.out, HBR.out⟩
                case measure => simp [intOf]; omega
        · obtain rfl : k = zs.length := by omega
          have hkI : ¬ (zs.length : Int) < (zs.length : Int) := by omega
          rw [List.take_length] at hown
          have HOW := Lib.hid hown
          have cE2 := Lib.hid (puny_Encode _ _ wr hown.sl (by rw [intsN_len]; have := HWL.out; omega))
          have HBW6 := Lib.hid (Bt HBW5.out hbr)
          have hwl6 : (intsN (wideZ zs)).length ≤ 1000000 := by rw [intsN_len]; have := HWL.out; omega
          clear hown hbr HBW5 HY5
          generalize wideZ zs = wd at *
          go_wp2_with fail
          refine cE2.out.mono ?_
          rintro e w7 ⟨hb7, h7⟩
          have HBW7 := Lib.hid (Bt HBW6.out hb7)
          have HO7 := Lib.hid (HOW.out.below hb7)
          clear hb7 HBW6 HOW
          rcases h7 with ⟨_, _, _, hE, _⟩ | ⟨l1, hE, rfl⟩
          · rw [HE4.out] at hE; cases hE
          rw [HE4.out] at hE
          obtain rfl : encN wd = l1 := by cases hE; rfl
          clear hE HE4
          generalize encN wd = T at *
          have hTL := HTL.out
          have hTs : (⟨T.toArray⟩ : ByteArray).size = T.length := by show T.toArray.size = _; simp
          have hTd : (⟨T.toArray⟩ : ByteArray).data.toList = T := rfl
          go_wp2_with ((with_reducible refine wpList_bytes (o := ⟨some 111, _, _, _, _, _⟩) rfl 9 22 5 _ rfl ⟨T.toArray⟩ rfl Try.underlying9 Try.underlying22 Try.underlying5 ?_); intro cap w8 hcap hB hb8 hsz8)
          rw [hTs] at hcap
          replace hB : BytesAt w8 w7.heap.size T := hB
          have HBW8 := Lib.hid (Bt HBW7.out hb8)
          have hg0 : w.heap.size ≤ w7.heap.size := HBW7.out.size
          have HB78 := Lib.hid hb8
          generalize hg : w7.heap.size = g at *
          have hlt2 : g < w8.heap.size := by omega
          clear hb8 hsz8 hTd
          go_loopw [114] (fun a wr => ∃ i : Nat, i ≤ T.length ∧ a = .int .i64 i ∧ BytesAt wr g (upTo T i) ∧ Below g w7 wr ∧ Below w.heap.size w wr) (fun a _ => T.length - (intOf a).toNat)
          case atStart => exact ⟨0, Nat.zero_le _, rfl, by simpa [upTo] using hB, HB78.out, HBW8.out⟩
          case round =>
            obtain ⟨i, hil, rfl, hBr, hbr7, hbr⟩ := hrel
            by_cases hlt : i < T.length
            · have hc := hBr.cell (k := i) (by rw [upTo_len]; exact hlt)
              have hfz := hBr.frozen (k := i) (by rw [upTo_len]; exact hlt)
              rw [upTo_at hlt] at hc
              have hst := fun b => hBr.store (k := i) (by rw [upTo_len]; exact hlt) b
              have hset := upTo_set hlt
              have hkeep := upTo_keep hlt
              have hdef : upC (T.getD i 0) = if 97 ≤ (T.getD i 0).toNat ∧ (T.getD i 0).toNat ≤ 122 then UInt8.ofNat ((T.getD i 0).toNat - 32) else T.getD i 0 := rfl
              have hb := (T.getD i 0).toNat_lt
              generalize T.getD i 0 = c at *
              have hiI : (i : Int) < (T.length : Int) := by omega
              by_cases hc1 : 97 ≤ c.toNat
              · by_cases hc2 : c.toNat ≤ 122
                · have hv : (upC c).toNat = c.toNat - 32 := by
                    rw [hdef, if_pos ⟨hc1, hc2⟩, UInt8.toNat_ofNat_of_lt' (show c.toNat - 32 < 256 by omega)]
                  have h2 := hst (upC c)
                  have hcast : (((upC c).toNat : Nat) : Int) = (c.toNat : Int) - 32 := by rw [hv]; omega
                  rw [hset, hcast] at h2
                  have H2 := Lib.hid h2
                  have hc1I : (c.toNat : Int) ≥ 97 := by omega
                  have hc2I : (c.toNat : Int) ≤ 122 := by omega
                  clear hst hset hkeep hdef hv h2 hBr hcast
                  go_wp2_with fail
                  go_roundw
                  case rel => exact ⟨i + 1, by omega, by go_num, H2.out, hbr7.setCell (Nat.le_refl _) _, hbr.setCell hg0 _⟩
                  case measure => simp [intOf]; omega
                · have hk := hkeep (by rw [hdef, if_neg (by omega)])
                  have h2 : BytesAt wr g (upTo T (i + 1)) := by rw [hk]; exact hBr
                  have H2 := Lib.hid h2
                  have hc1I : (c.toNat : Int) ≥ 97 := by omega
                  have hc2I : ¬ (c.toNat : Int) ≤ 122 := by omega
                  clear hst hset hkeep hdef hk h2 hBr
                  go_wp2_with fail
                  go_roundw
                  case rel => exact ⟨i + 1, by omega, by go_num, H2.out, hbr7, hbr⟩
                  case measure => simp [intOf]; omega
              · have hk := hkeep (by rw [hdef, if_neg (by omega)])
                have h2 : BytesAt wr g (upTo T (i + 1)) := by rw [hk]; exact hBr
                have H2 := Lib.hid h2
                have hc1I : ¬ (c.toNat : Int) ≥ 97 := by omega
                clear hst hset hkeep hdef hk h2 hBr
                go_wp2_with fail
                go_roundw
                case rel => exact ⟨i + 1, by omega, by go_num, H2.out, hbr7, hbr⟩
                case measure => simp [intOf]; omega
            · obtain rfl : i = T.length := by omega
              have hiI : ¬ (T.length : Int) < (T.length : Int) := by omega
              have hcv := run_back wr 22 9 5 g cap _ Try.underlying22 Try.underlying5 Try.underlying9 hBr
              rw [upTo_len, upTo_all] at hcv
              have HOr := Lib.hid (HO7.out.below (show Below w7.heap.size w7 wr by rw [hg]; exact hbr7))
              by_cases h1024 : T.length ≤ 1024
              · have hI : ¬ (T.length : Int) > 1024 := by omega
                have HD := Lib.hid (HD2.out h1024)
                clear h1024 hBr hbr7
                generalize (⟨(T.map upC).toArray⟩ : ByteArray) = G at *
                go_wp2_with fail
                refine (c6.out G _).mono ?_
                rintro e w9 ⟨hb9, h9⟩
                have hbr9 := Bt hbr hb9
                have HO9 := Lib.hid (HOr.out.below hb9)
                rcases h9 with ⟨_, _, _, hE, _⟩ | ⟨l1, v9, hE, rfl, hown9⟩
                · rw [HD.out] at hE; cases hE
                rw [HD.out] at hE
                obtain rfl : wd = l1 := by cases hE; rfl
                have HSL9 := Lib.hid hown9.sl
                obtain ⟨va, vc, rfl⟩ := row_len hown9
                clear hE hown9 hcv
                go_wp2_with fail
                refine (c4.out _ _ (intsN wd) _ HSL9.out HO9.out.sl hwl6).mono ?_
                rintro e w10 ⟨rfl, q10, rfl⟩
                have hbE := below_drewN hbr9 q10
                go_wp2_with fail
                go_ret
                exact ⟨rfl, hbE⟩
              · have hI : (T.length : Int) > 1024 := by omega
                clear h1024 hBr hbr7 hcv
                go_wp2_with fail
                go_ret
                exact ⟨rfl, hbr⟩
theorem walkPunyPlain (a0 : Option Addr) (n0 c0 : Nat) (z0 : List Int) (a1 : Option Addr) (n1 c1 : Nat) (z1 : List Int) (w : World) (h0 : IsRow .u8 w a0 n0 c0 z0) (h1 : IsRow .i64 w a1 n1 c1 z1) :
    Calls Try.prog 3 #[.slice a0 n0 c0, .slice a1 n1 c1] w fun e w' => e = .returned (.bool true) ∧ Below w.heap.size w w' := by
  by_cases h : 200 < n0 ∨ n0 = 0 ∨ 100 < n1
  · exact punyPlain_long a0 a1 n0 c0 n1 c1 w h
  · obtain ⟨s, hs, hsl⟩ := h0.bytes
    obtain ⟨l, hl, hll, _⟩ := h1.ints
    subst hs hl
    exact punyPlain_walk _ _ s l a0 a1 c0 c1 rfl rfl (by omega) (by omega) (by omega) w hsl hll
end Go.Proofs.Ytakcfgmibijdnaa
