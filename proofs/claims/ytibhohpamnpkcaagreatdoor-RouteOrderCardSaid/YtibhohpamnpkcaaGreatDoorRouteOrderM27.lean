/- subst.Match: the walk. -/
import Derived.Test.YtibhohpamnpkcaaGreatDoorRouteOrderM26
import Derived.Test.YtibhohpamnpkcaaGreatDoorRouteOrderM4
import Derived.Test.YtibhohpamnpkcaaGreatDoorRouteOrderM10
import Derived.Test.YtibhohpamnpkcaaGreatDoorRouteOrderM20
import Derived.Test.YtibhohpamnpkcaaGreatDoorRouteOrderM1
import Derived.Test.YtibhohpamnpkcaaGreatDoorRouteOrderM16
import Derived.Test.YtibhohpamnpkcaaGreatDoorRouteOrderM19

namespace Go.Proofs.YtibhohpamnpkcaaGreatDoor
open Go.RowKit

theorem pcF_text (p : ByteArray) : ∀ f k, k ≤ p.size → ∀ q ∈ (pcF p f k).1, q.text.size ≤ p.size := by
  intro f
  induction f with
  | zero => intro k _ q hq; simp [pcF] at hq
  | succ f ih =>
    intro k hk q hq
    rw [pcF] at hq
    by_cases hlt : k < p.size
    · rw [if_pos hlt] at hq
      have hes := extract_tail_size p k hk
      rcases idx_pair (p.extract k p.size).data.toList with hi | ⟨n, hi, hn⟩
      · rw [hi, if_pos (by decide)] at hq
        simp at hq
        subst hq
        show (p.extract k p.size).size ≤ _
        omega
      · rw [show (p.extract k p.size).data.toList.length = (p.extract k p.size).size from rfl, hes] at hn
        rw [hi, if_neg (by omega), Int.toNat_natCast, pre_int] at hq
        have hpre : ∀ q ∈ preP p k n, q.text.size ≤ p.size := by
          intro q hq
          unfold preP at hq
          split at hq
          · simp at hq
            subst hq
            show (p.extract k (k + n)).size ≤ _
            rw [extract_size p k (k + n) (by omega) (by omega)]
            omega
          · cases hq
        by_cases hc : cutH 41 (p.extract (k + n + 2) p.size) = true
        · rw [if_pos hc] at hq
          have hr := cut_room hc
          have he := extract_tail_size p (k + n + 2) (by omega)
          rw [he] at hr
          rcases List.mem_append.1 hq with h | h
          · exact hpre q h
          · rcases List.mem_cons.1 h with rfl | h
            · show (cutN 41 _).size ≤ _
              omega
            · exact ih _ (by omega) q h
        · rw [if_neg hc] at hq
          exact hpre q hq
    · rw [if_neg hlt] at hq; cases hq
set_option maxHeartbeats 6400000 in
set_option maxRecDepth 100000 in
theorem sub_Match (p s : ByteArray) (av : Option Addr) (vcap : Nat) (vars : List SVar) (fold : Bool) (w : World) (hU : Utf8Laid w) (hL : ClassLaid w) (hM : MaxAt w) (hv : VarsSl w av vars) (hp : p.size ≤ 16777216) (hs : s.size ≤ 16777216) (hvl : vars.length ≤ 16777216) (hvs : ∀ v ∈ vars, v.2.length ≤ 16777216 ∧ ∀ s ∈ v.2, s.size ≤ 16777216) :
    Calls Tryz.prog 88 #[.string p, .slice av vars.length vcap, .string s, .bool fold] w fun e w' => e = .returned (.bool (subM p vars s fold)) ∧ Below w.heap.size w w' := by
  have HVS := Lib.hid hvs
  clear hvs
  go_enter Tryz.func88, Tryz.ntmps88
  go_wp2_with ((with_reducible refine wpList_bytes_sl rfl 9 74 5 _ rfl s rfl Tryz.underlying9 Tryz.underlying74 Tryz.underlying5 (by omega) ?_); intro v1 w1 hv1 hb1)
  refine (utf_Chars v1 s _ (hU.below hb1) hs hv1).mono ?_
  rintro e w2 ⟨hb2, h⟩
  have hb12 := Bt hb1 hb2
  have hU2 := hU.below hb12
  have hL2 := hL.below hb12
  have hM2 := hM.below hb12
  have hv2 := hv.below hb12
  rcases h with ⟨hn, v3, rfl, hownc⟩ | ⟨i, hi, v3, rfl, hv3⟩
  · obtain ⟨a, c, rfl, hc1, hc2, hsl⟩ := chars_sl hownc rfl
    clear hv1 hb1 hb2 hU hL hM hv hownc
    go_wp2_with fail
    refine (sub_Check p av vcap vars _ hU2 hL2 hM2 hv2 hp hvl).mono ?_
    rintro e w3 ⟨hb3, h⟩
    have hb13 := Bt hb12 hb3
    rcases h with ⟨hok, _, rfl⟩ | ⟨hok, _, v4, rfl, hv4⟩
    · have hM3 := hM2.below hb3
      have hsl3 := hsl.below hb3
      have hU3 := hU2.below hb3
      have hL3 := hL2.below hb3
      have hvv3 := hv2.below hb3
      clear hb12 hb3 hM2 hsl hU2 hL2 hv2
      go_wp2_with fail
      refine (sub_pieces p _ hM3 hp).mono ?_
      rintro e w4 ⟨v4, rfl, hown, hb4⟩
      obtain ⟨a4, n4, c4, rfl⟩ := hown.shape3
      obtain ⟨hn4, hc4, hcm, hpl⟩ := hown.sl
      subst hn4
      have hb14 := Bt hb13 hb4
      have hsl4 := hsl3.below hb4
      have hU4 := hU3.below hb4
      have hL4 := hL3.below hb4
      have hv4 := hvv3.below hb4
      have hplen := pcs_len p (p.size + 1) 0 (Nat.zero_le _)
      rw [show (pcF p (p.size + 1) 0).1 = (pcs p).1 from rfl] at hplen
      have htx := pcF_text p (p.size + 1) 0 (Nat.zero_le _)
      rw [show (pcF p (p.size + 1) 0).1 = (pcs p).1 from rfl] at htx
      have hlen := chrs_len s
      have hcs : ∀ c ∈ (chrs s).1, c ≤ 1114111 := chrs_le
      have hplain := fun q h1 h2 => subM_plain (fold := fold) (q := q) hn hok h1 h2
      have hrun := subM_run (fold := fold) hn hok
      have HPL := Lib.hid hplain
      have HRUN := Lib.hid hrun
      unfold maxLen at hcm hc2
      clear hplain hrun hb13 hsl3 hU3 hL3 hvv3 hown hM3 hb4 hn
      generalize (chrs s).1 = cs at *
      generalize (pcs p).1 = qs at *
      have HTX := Lib.hid htx
      have HCS := Lib.hid hcs
      clear htx hcs hok
      by_cases hone : ∃ q, qs = [q] ∧ q.isVar = false
      · obtain ⟨q, rfl, hqv⟩ := hone
        have HR := Lib.hid (HPL.out q rfl hqv)
        obtain ⟨b, ha, hbw, d0, d1, d2⟩ := hpl 0 q rfl
        subst ha
        rw [hqv] at d1
        simp only [Nat.zero_mul, Nat.zero_add] at d1
        clear hqv HPL HRUN d0 d2 hpl hv4 hsl4 hL4 HTX HCS
        go_wp2_with fail
        refine (glob_Match p s fold _ hU4 hp hs).mono ?_
        rintro e w5 ⟨rfl, hb5⟩
        have hb15 := Bt hb14 hb5
        go_wp2_with fail
        go_ret
        exact ⟨ret_bool HR.out.symm, hb15⟩
      · clear HPL
        go_upto_region 5 with (fail)
        go_cut [45] (fun v wx => v = .bool false ∧ w4 = wx)
        case first =>
          clear HRUN HTX HCS hv4 hsl4 hL4 hU4
          by_cases hl1 : qs.length = 1
          · have e1 : ((qs.length : Int) == 1) = true := by rw [beq_iff_eq]; omega
            have hI0 : (0 : Int) < (qs.length : Int) := by omega
            obtain ⟨q, hq⟩ := List.length_eq_one_iff.1 hl1
            have hqv : q.isVar = true := by
              cases hc : q.isVar
              · exact absurd ⟨q, hq, hc⟩ hone
              · rfl
            obtain ⟨b, ha, hbw, _, d1, _⟩ := hpl 0 q (by rw [hq]; rfl)
            have HA := Lib.hid ha
            rw [hqv] at d1
            simp only [Nat.zero_mul, Nat.zero_add] at d1
            clear hq hl1 hone hpl hplen hqv
            subst ha
            go_wp2_with fail
            go_meet
            exact ⟨rfl, rfl⟩
          · have e1 : ((qs.length : Int) == 1) = false := by rw [beq_eq_false_iff_ne]; omega
            clear hone hpl hplen hl1
            go_wp2_with fail
            go_meet
            exact ⟨rfl, rfl⟩
        case rest =>
          obtain ⟨rfl, rfl⟩ := hcut
          have hst5 : Below w4.heap.size w4 (w4.alloc (.cells #[.slice a cs.length c, .slice av vars.length vcap, .bool fold] 225)) := (Below.refl _ _).alloc (Nat.le_refl _) _
          have hq5 := heap_alloc_new w4 (.cells #[.slice a cs.length c, .slice av vars.length vcap, .bool fold] 225)
          have hmk := make_bools cs.length (by omega)
          have hfz0 := (World.rowIs_made (w4.alloc (.cells #[.slice a cs.length c, .slice av vars.length vcap, .bool fold] 225)) (.bool false) (cs.length + 1) 4).frozen 0
          have hc0 := (World.rowIs_made (w4.alloc (.cells #[.slice a cs.length c, .slice av vars.length vcap, .bool fold] 225)) (.bool false) (cs.length + 1) 4).cell (i := 0) (by omega)
          have hrow0 := row_start (w4.alloc (.cells #[.slice a cs.length c, .slice av vars.length vcap, .bool fold] 225)) cs.length
          have hst6 : Below (w4.alloc (.cells #[.slice a cs.length c, .slice av vars.length vcap, .bool fold] 225)).heap.size (w4.alloc (.cells #[.slice a cs.length c, .slice av vars.length vcap, .bool fold] 225)) ((w4.alloc (.cells #[.slice a cs.length c, .slice av vars.length vcap, .bool fold] 225)).alloc (.cells ((madeCells #[.bool false] (cs.length + 1)).setIfInBounds 0 (.bool true)) 4)) := (Below.refl _ _).alloc (Nat.le_refl _) _
          have hb06 := Bt hst5 hst6
          have m0 := (hst6.cell (p := ⟨w4.heap.size, 0, none⟩) (by simp)).trans (cell_of_row _ _ 0 _ _ _ hq5)
          have m1 := (hst6.cell (p := ⟨w4.heap.size, 1, none⟩) (by simp)).trans (cell_of_row _ _ 1 _ _ _ hq5)
          have m2 := (hst6.cell (p := ⟨w4.heap.size, 2, none⟩) (by simp)).trans (cell_of_row _ _ 2 _ _ _ hq5)
          have hmat : MatAt ((w4.alloc (.cells #[.slice a cs.length c, .slice av vars.length vcap, .bool fold] 225)).alloc (.cells ((madeCells #[.bool false] (cs.length + 1)).setIfInBounds 0 (.bool true)) 4)) w4.heap.size a cs.length c cs (.slice av vars.length vcap) fold := ⟨by simp; omega, m0, m1, m2, rfl, hsl4.below hb06⟩
          have hU6 := hU4.below hb06
          have hL6 := hL4.below hb06
          have hv6 := hv4.below hb06
          have hp6 := hpl.below hb06
          have hb16 := Bt hb14 hb06
          rw [World.size_alloc] at hrow0 hfz0 hc0
          have HMAT := Lib.hid hmat
          clear hst5 hq5 hst6 hb06 m0 m1 m2 hmat hU4 hL4 hv4 hpl hb14 hsl4
          go_wp2_with fail
          generalize (w4.alloc (.cells #[.slice a cs.length c, .slice av vars.length vcap, .bool fold] 225)).alloc (.cells ((madeCells #[.bool false] (cs.length + 1)).setIfInBounds 0 (.bool true)) 4) = w6 at *
          generalize w4.heap.size = n5 at *
          clear hmk hfz0 hc0
          go_loopw [14, 63] (fun v x wr => ∃ (i gn : Nat) (F : Nat → Bool), i ≤ qs.length ∧ x = .int .i64 i ∧ v = .slice (some ⟨gn, 0, none⟩) (cs.length + 1) (cs.length + 1) ∧ wr.rowIs gn 4 (cs.length + 1) (boolsF F) ∧ runR fold cs vars (qs.drop i) F = runR fold cs vars qs (fun i => decide (i = 0)) ∧ Below w6.heap.size w6 wr) (fun _ x _ => qs.length - (intOf x).toNat)
          case atStart => exact ⟨0, n5 + 1, startF, Nat.zero_le _, rfl, rfl, hrow0, by rw [List.drop_zero]; rfl, Below.refl _ _⟩
          case round =>
            obtain ⟨i, gn, F, hil, rfl, rfl, hr, hrn, hbr⟩ := hrel
            clear hrow0
            by_cases hlt : i < qs.length
            · have hiI : (i : Int) < (qs.length : Int) := by omega
              obtain ⟨q, hq⟩ : ∃ q, qs[i]? = some q := ⟨_, List.getElem?_eq_getElem hlt⟩
              obtain ⟨b, ha, hbw, d0, d1, d2⟩ := (hp6.below hbr) i q hq
              have hdr : qs.drop i = q :: qs.drop (i + 1) := by
                obtain ⟨hi, rfl⟩ := List.getElem?_eq_some_iff.1 hq
                exact List.drop_eq_getElem_cons hi
              rw [hdr, runR] at hrn
              have hqt := HTX.out q (List.mem_of_getElem? hq)
              have hal : Below wr.heap.size wr (wr.alloc (.cells #[.string q.text, .bool q.isVar, .int .i64 (q.place : Int)] 221)) := (Below.refl _ _).alloc (Nat.le_refl _) _
              have hb7 := Bt hbr hal
              have hr7 := row_below hr hal
              have HST := Lib.hid (fun W h1 h2 h3 h4 h5 => sub_step n5 gn (cs.length + 1) cs.length c vcap a av vars cs q F fold W h1 h2 h3 h4 (by omega) hc1 h5 HCS.out (by omega) hvl HVS.out)
              have HRN := Lib.hid hrn
              have hU7 := hU6.below hb7
              have hL7 := hL6.below hb7
              have hv7 := hv6.below hb7
              have hm7 := HMAT.out.below hb7
              have HM7 := Lib.hid hm7
              subst ha
              clear hq hdr hrn hm7 hal hr hbr hp6
              obtain ⟨tx, iv, pl⟩ := q
              simp only at d0 d1 d2
              go_wp2_with fail
              refine (HST.out _ hU7 hL7 HM7.out hv7 hr7).mono ?_
              rintro e w8 ⟨gn8, rfl, hr8, hgn8, hb8⟩
              have hb68 := Bt hb7 hb8
              clear HST HM7 hU7 hL7 hv7 hr7 hb7 hb8
              go_wp2_with fail
              go_roundw
              case rel => exact ⟨i + 1, gn8, _, by omega, by go_num, rfl, hr8, HRN.out, hb68⟩
              case measure => simp [intOf]; omega
            · obtain rfl : i = qs.length := by omega
              rw [List.drop_length, runR] at hrn
              have cl := hr.cell (i := cs.length) (by omega)
              have hgl := hr.lt
              have e9 : boolsF F cs.length = .bool (F cs.length) := rfl
              rw [e9] at cl
              have HR := Lib.hid (show F cs.length = subM p vars s fold by rw [HRUN.out, hrn])
              have hb0 := Bt hb16 hbr
              clear hrn e9 hr hbr HRUN
              go_wp2_with fail
              go_ret
              exact ⟨ret_bool HR.out, hb0⟩
    · obtain ⟨q, rfl⟩ := hv4.ne_nil
      have HV := Lib.hid (subM_no (s := s) (fold := fold) hok)
      clear hok hn
      go_wp2_with fail
      go_ret
      exact ⟨ret_bool HV.out.symm, hb13⟩
  · obtain ⟨q, rfl⟩ := hv3.ne_nil
    have HV := Lib.hid (subM_bad (p := p) (vars := vars) (fold := fold) hi)
    clear hi
    go_wp2_with fail
    go_ret
    exact ⟨ret_bool HV.out.symm, hb12⟩
end Go.Proofs.YtibhohpamnpkcaaGreatDoor

/- How a rule looks at a part of a URL. -/
namespace Go.Proofs.YtibhohpamnpkcaaGreatDoor
open Go.RowKit

/-- A rule, as it lies in memory. -/
structure Rl where
  path : ByteArray
  query : ByteArray
  frag : ByteArray
  hp : Bool
  hq : Bool
  hf : Bool
  ia : Option Addr
  ilen : Nat
  icap : Nat
  ex : Bool
  fold : Bool
  dec : Bool
def rlC (r : Rl) : List Value := [.string r.path, .string r.query, .string r.frag, .bool r.hp, .bool r.hq, .bool r.hf, .slice r.ia r.ilen r.icap, .bool r.ex, .bool r.fold, .bool r.dec]
/-- A part as a rule looks at it; none: it can't be looked at. -/
def shownP (dec : Bool) (s : ByteArray) : Option ByteArray :=
  if dec = true then (if (told s).2 = none ∧ (chrs ⟨(bytesT s).toArray⟩).2 = none then some ⟨(bytesT s).toArray⟩ else none) else some s
set_option maxHeartbeats 800000 in
theorem look_match (r : Rl) (p s : ByteArray) (av : Option Addr) (vcap : Nat) (vars : List SVar) (w : World) (hU : Utf8Laid w) (hL : ClassLaid w) (hM : MaxAt w) (hv : VarsSl w av vars) (hp : p.size ≤ 16777216) (hs : s.size ≤ 16777216) (hvl : vars.length ≤ 16777216) (hvs : ∀ v ∈ vars, v.2.length ≤ 16777216 ∧ ∀ s ∈ v.2, s.size ≤ 16777216) :
    Calls Tryz.prog 66 #[.agg #[.string r.path, .string r.query, .string r.frag, .bool r.hp, .bool r.hq, .bool r.hf, .slice r.ia r.ilen r.icap, .bool r.ex, .bool r.fold, .bool r.dec, .slice av vars.length vcap], .string p, .string s] w fun e w' => e = .returned (.bool (subM p vars s r.fold)) ∧ Below w.heap.size w w' := by
  have hal : Below w.heap.size w (w.alloc (.cells #[.string r.path, .string r.query, .string r.frag, .bool r.hp, .bool r.hq, .bool r.hf, .slice r.ia r.ilen r.icap, .bool r.ex, .bool r.fold, .bool r.dec, .slice av vars.length vcap] 109)) := (Below.refl _ _).alloc (Nat.le_refl _) _
  have CS := Lib.hid (sub_Match p s av vcap vars r.fold _ (hU.below hal) (hL.below hal) (hM.below hal) (hv.below hal) hp hs hvl hvs)
  have HAL := Lib.hid hal
  clear hU hL hM hv hvs hal
  go_enter Tryz.func66, Tryz.ntmps66
  go_wp2_with fail
  refine CS.out.mono ?_
  rintro e w4 ⟨rfl, hb⟩
  have HB := Lib.hid (Bt HAL.out hb)
  clear hb
  go_wp2_with fail
  go_ret
  exact ⟨rfl, HB.out⟩
set_option maxHeartbeats 800000 in
theorem look_shown (r : Rl) (s : ByteArray) (w : World) (hU : Utf8Laid w) (hs : s.size ≤ 16777216) (av : Option Addr) (vn vcap : Nat) :
    Calls Tryz.prog 65 #[.agg #[.string r.path, .string r.query, .string r.frag, .bool r.hp, .bool r.hq, .bool r.hf, .slice r.ia r.ilen r.icap, .bool r.ex, .bool r.fold, .bool r.dec, .slice av vn vcap], .string s] w fun e w' => e = .returned (.tuple #[.string ((shownP r.dec s).getD ⟨#[]⟩), .bool (shownP r.dec s).isSome]) ∧ Below w.heap.size w w' := by
  obtain ⟨f0, f1, f2, f3, f4, f5, f6, f7, f8, f9, f10, dec⟩ := r
  have hal : Below w.heap.size w (w.alloc (.cells #[.string f0, .string f1, .string f2, .bool f3, .bool f4, .bool f5, .slice f6 f7 f8, .bool f9, .bool f10, .bool dec, .slice av vn vcap] 109)) := (Below.refl _ _).alloc (Nat.le_refl _) _
  have HAL := Lib.hid hal
  cases dec
  · have HP := Lib.hid (show shownP false s = some s by unfold shownP; simp)
    go_enter Tryz.func65, Tryz.ntmps65
    go_wp2_with fail
    go_ret2
    exact ⟨by rw [HP.out]; rfl, HAL.out⟩
  · have CD := Lib.hid (percent_Decode s _ hs : Calls _ _ _ (w.alloc (.cells #[.string f0, .string f1, .string f2, .bool f3, .bool f4, .bool f5, .slice f6 f7 f8, .bool f9, .bool f10, .bool true, .slice av vn vcap] 109)) _)
    clear hal
    go_enter Tryz.func65, Tryz.ntmps65
    go_wp2_with fail
    refine CD.out.mono ?_
    rintro e w4 ⟨hb4, h⟩
    have HB4 := Lib.hid (Bt HAL.out hb4)
    rcases h with ⟨ht, v, rfl, hown⟩ | ⟨i, ht, v, rfl, hf⟩
    · have hln : (bytesT s).length ≤ 16777216 := by
        have := bytesT_len s
        omega
      have CV := Lib.hid (utf_Valid v ⟨(bytesT s).toArray⟩ w4 (hU.below HB4.out) hln hown.sl)
      have HO := Lib.hid hown
      have HT := Lib.hid ht
      clear hb4 ht hown
      go_wp2_with fail
      refine CV.out.mono ?_
      rintro e w6 ⟨hb6, h⟩
      have HB6 := Lib.hid (Bt HB4.out hb6)
      rcases h with ⟨hc, rfl⟩ | ⟨i, hc, u, rfl, hf⟩
      · have hcv := OwnB.conv (OwnB.below HO.out hb6)
        have HP := Lib.hid (show shownP true s = some ⟨(bytesT s).toArray⟩ by unfold shownP; simp [HT.out, hc])
        clear hb6 hc
        go_wp2_with fail
        go_ret2
        exact ⟨by rw [HP.out]; rfl, HB6.out⟩
      · obtain ⟨zz, rfl⟩ := hf.ne_nil
        have HP := Lib.hid (show shownP true s = none by unfold shownP; simp [hc])
        clear hb6 hc hf
        go_wp2_with fail
        go_ret2
        exact ⟨by rw [HP.out]; rfl, HB6.out⟩
    · obtain ⟨zz, rfl⟩ := hf.ne_nil
      have HP := Lib.hid (show shownP true s = none by unfold shownP; simp [ht])
      clear hb4 ht hf
      go_wp2_with fail
      go_ret2
      exact ⟨by rw [HP.out]; rfl, HB4.out⟩
end Go.Proofs.YtibhohpamnpkcaaGreatDoor

/- Whether a part is in a pattern's language. -/
namespace Go.Proofs.YtibhohpamnpkcaaGreatDoor
open Go.RowKit

/-- The program's variables are laid; the rules' variables lie at a slice, and are not too great. -/
structure Looks (w : World) (av : Option Addr) (vars : List SVar) : Prop where
  utf : Utf8Laid w
  cls : ClassLaid w
  max : MaxAt w
  sl : VarsSl w av vars
  len : vars.length ≤ 16777216
  vals : ∀ v ∈ vars, v.2.length ≤ 16777216 ∧ ∀ s ∈ v.2, s.size ≤ 16777216
theorem Looks.below {w w' : World} {av : Option Addr} {vars : List SVar} (h : Looks w av vars) (hb : Below w.heap.size w w') : Looks w' av vars :=
  ⟨h.utf.below hb, h.cls.below hb, h.max.below hb, h.sl.below hb, h.len, h.vals⟩
def fitsP (dec fold told : Bool) (p : ByteArray) (vars : List SVar) (part : ByteArray) : Bool :=
  if told = true then ((shownP dec part).isSome && subM p vars ((shownP dec part).getD ⟨#[]⟩) fold) else true
theorem shownP_size {dec : Bool} {s : ByteArray} : ((shownP dec s).getD ⟨#[]⟩).size ≤ s.size := by
  unfold shownP
  split
  · split
    · show (bytesT s).length ≤ _
      exact bytesT_len s
    · exact Nat.zero_le _
  · exact Nat.le_refl _
set_option maxHeartbeats 1600000 in
theorem look_fits (r : Rl) (told : Bool) (p s : ByteArray) (av : Option Addr) (vcap : Nat) (vars : List SVar) (w : World) (hw : Looks w av vars) (hp : p.size ≤ 16777216) (hs : s.size ≤ 16777216) :
    Calls Tryz.prog 44 #[.agg #[.string r.path, .string r.query, .string r.frag, .bool r.hp, .bool r.hq, .bool r.hf, .slice r.ia r.ilen r.icap, .bool r.ex, .bool r.fold, .bool r.dec, .slice av vars.length vcap], .bool told, .string p, .string s] w fun e w' => e = .returned (.bool (fitsP r.dec r.fold told p vars s)) ∧ Below w.heap.size w w' := by
  obtain ⟨f0, f1, f2, f3, f4, f5, f6, f7, f8, f9, f10, dec⟩ := r
  have hal : Below w.heap.size w (w.alloc (.cells #[.string f0, .string f1, .string f2, .bool f3, .bool f4, .bool f5, .slice f6 f7 f8, .bool f9, .bool f10, .bool dec, .slice av vars.length vcap] 109)) := (Below.refl _ _).alloc (Nat.le_refl _) _
  have hq := heap_alloc_new w (.cells #[.string f0, .string f1, .string f2, .bool f3, .bool f4, .bool f5, .slice f6 f7 f8, .bool f9, .bool f10, .bool dec, .slice av vars.length vcap] 109)
  have HAL := Lib.hid hal
  cases told
  · have HP := Lib.hid (show fitsP dec f10 false p vars s = true by unfold fitsP; simp)
    go_enter Tryz.func44, Tryz.ntmps44
    go_wp2_with fail
    go_ret
    exact ⟨by rw [HP.out]; rfl, HAL.out⟩
  · have HP := Lib.hid (show fitsP dec f10 true p vars s = ((shownP dec s).isSome && subM p vars ((shownP dec s).getD ⟨#[]⟩) f10) by unfold fitsP; simp)
    have hz : ((shownP dec s).getD ⟨#[]⟩).size ≤ 16777216 := Nat.le_trans shownP_size hs
    have CD := Lib.hid (look_shown ⟨f0, f1, f2, f3, f4, f5, f6, f7, f8, f9, f10, dec⟩ s _ (hw.below hal).utf hs av vars.length vcap)
    have CM := Lib.hid (fun (W : World) (h : Below w.heap.size w W) => look_match ⟨f0, f1, f2, f3, f4, f5, f6, f7, f8, f9, f10, dec⟩ p ((shownP dec s).getD ⟨#[]⟩) av vcap vars W (hw.below h).utf (hw.below h).cls (hw.below h).max (hw.below h).sl hp hz hw.len hw.vals)
    have HQ := Lib.hid hq
    generalize (shownP dec s).getD ⟨#[]⟩ = t at *
    generalize (shownP dec s).isSome = ok at *
    clear hal hq hw hz
    go_enter Tryz.func44, Tryz.ntmps44
    go_wp2_with fail
    refine CD.out.mono ?_
    rintro e w4 ⟨rfl, hb4⟩
    have hq4 := (hb4.block _ (lt_of_block HQ.out)).trans HQ.out
    have hbb := Bt HAL.out hb4
    have CM4 := Lib.hid (CM.out w4 hbb)
    have HB4 := Lib.hid hbb
    have c0 : w4.cell? ⟨w.heap.size, 0, none⟩ = some (.string f0) := (cell_of_row _ _ 0 _ _ _ hq4).trans rfl
    have c1 : w4.cell? ⟨w.heap.size, 1, none⟩ = some (.string f1) := (cell_of_row _ _ 1 _ _ _ hq4).trans rfl
    have c2 : w4.cell? ⟨w.heap.size, 2, none⟩ = some (.string f2) := (cell_of_row _ _ 2 _ _ _ hq4).trans rfl
    have c3 : w4.cell? ⟨w.heap.size, 3, none⟩ = some (.bool f3) := (cell_of_row _ _ 3 _ _ _ hq4).trans rfl
    have c4 : w4.cell? ⟨w.heap.size, 4, none⟩ = some (.bool f4) := (cell_of_row _ _ 4 _ _ _ hq4).trans rfl
    have c5 : w4.cell? ⟨w.heap.size, 5, none⟩ = some (.bool f5) := (cell_of_row _ _ 5 _ _ _ hq4).trans rfl
    have c6 : w4.cell? ⟨w.heap.size, 6, none⟩ = some (.slice f6 f7 f8) := (cell_of_row _ _ 6 _ _ _ hq4).trans rfl
    have c7 : w4.cell? ⟨w.heap.size, 7, none⟩ = some (.bool f9) := (cell_of_row _ _ 7 _ _ _ hq4).trans rfl
    have c8 : w4.cell? ⟨w.heap.size, 8, none⟩ = some (.bool f10) := (cell_of_row _ _ 8 _ _ _ hq4).trans rfl
    have c9 : w4.cell? ⟨w.heap.size, 9, none⟩ = some (.bool dec) := (cell_of_row _ _ 9 _ _ _ hq4).trans rfl
    have c10 : w4.cell? ⟨w.heap.size, 10, none⟩ = some (.slice av vars.length vcap) := (cell_of_row _ _ 10 _ _ _ hq4).trans rfl
    clear hq4 hbb hb4
    cases ok
    · go_wp2_with fail
      go_ret
      exact ⟨by rw [HP.out]; rfl, HB4.out⟩
    · go_wp2_with fail
      refine CM4.out.mono ?_
      rintro e w6 ⟨rfl, hb6⟩
      have HB6 := Lib.hid (Bt HB4.out hb6)
      clear hb6
      go_wp2_with fail
      go_ret
      exact ⟨by rw [HP.out]; rfl, HB6.out⟩
end Go.Proofs.YtibhohpamnpkcaaGreatDoor

/- query.Items. -/
namespace Go.Proofs.YtibhohpamnpkcaaGreatDoor
open Go.RowKit

def QItemsPost (s : ByteArray) (w : World) (e : Ending) (w' : World) : Prop := Below w.heap.size w w' ∧
  (((itemsQ s).2.1 = 0 ∧ ∃ v, e = .returned (.tuple #[v, .nilIface]) ∧ OwnI w' w.heap.size v (itemsQ s).1) ∨
   ((itemsQ s).2.1 ≠ 0 ∧ ∃ v n, e = .returned (.tuple #[.slice none 0 0, v]) ∧ FaultIs w' v ((itemsQ s).2.1 : Int) ((itemsQ s).2.2 : Int) n))
theorem parts_sum (c : UInt8) (s : ByteArray) : ((partsB c s).map fun p => p.size + 1).sum = s.size + 1 := by
  have h := splitL_len c _ s.data.toList (Nat.le_refl _)
  have hs : s.data.toList.length = s.size := rfl
  unfold partsB
  rw [List.map_map]
  have : ((splitL c s.data.toList).map ((fun p : ByteArray => p.size + 1) ∘ ofL)) = (splitL c s.data.toList).map fun l => l.length + 1 := by
    apply List.map_congr_left
    intro l _
    show (ofL l).size + 1 = _
    rw [ofL_size]
  rw [this, ← hs, ← h]
  generalize splitL c s.data.toList = ls
  induction ls with
  | nil => rfl
  | cons x ls ih => simp only [List.map_cons, List.sum_cons, List.length_cons, ih]; omega
theorem drop_cons' {α : Type} {ps : List α} {i : Nat} {p : α} (h : ps[i]? = some p) : ps.drop i = p :: ps.drop (i + 1) := by
  obtain ⟨hi, rfl⟩ := List.getElem?_eq_some_iff.1 h
  exact List.drop_eq_getElem_cons hi
theorem sum_step {ps : List ByteArray} {i : Nat} {p : ByteArray} (h : ps[i]? = some p) : ((ps.drop i).map fun p => p.size + 1).sum = p.size + 1 + ((ps.drop (i + 1)).map fun p => p.size + 1).sum := by
  rw [drop_cons' h, List.map_cons, List.sum_cons]
set_option maxHeartbeats 3200000 in
set_option maxRecDepth 100000 in
theorem query_Items (s : ByteArray) (w : World) (hg : Handle w) (hU : Utf8Laid w) (hs : s.size ≤ 1000000) : Calls Tryz.prog 67 #[.string s] w (QItemsPost s w) := by
  have cS := Lib.hid (fun W => strings_Split1 s 38 W (by omega))
  have hsum := parts_sum 38 s
  have hsz := partsB_sizes 38 s
  have hlen := partsB_len 38 s
  have hit : itemsQ s = goG stepQ 256 (partsB 38 s) 0 [] := rfl
  have HIT := Lib.hid hit
  have HSZ := Lib.hid hsz
  clear hsz hit
  have hcells := fun W => parts_cells W (partsB 38 s)
  have HCL := Lib.hid hcells
  clear hcells
  generalize partsB 38 s = ps at *
  go_enter Tryz.func67, Tryz.ntmps67
  go_wp2_with fail
  refine (cS.out _).mono ?_
  rintro e w1 ⟨rfl, hw1⟩
  have hb1 : Below w.heap.size w w1 := by rw [← hw1]; exact (Below.refl _ _).alloc (Nat.le_refl _) _
  have hs1 : w.heap.size < w1.heap.size := by rw [← hw1]; simp
  have hc1 := HCL.out w
  rw [hw1] at hc1
  have HC1 := Lib.hid hc1
  have hg1 := hg.below hb1
  have hU1 := hU.below hb1
  clear hw1 HCL hc1
  go_wp2_with fail
  go_loopw [2, 4, 12] (fun v a x wr => ∃ (i at_ : Nat) (acc : List It), i ≤ ps.length ∧ x = .int .i64 i ∧ a = .int .i64 at_ ∧ OwnI wr w1.heap.size v acc ∧ Below w1.heap.size w1 wr ∧ acc.length ≤ 256 ∧ at_ + ((ps.drop i).map fun p => p.size + 1).sum = s.size + 1 ∧ itemsQ s = goG stepQ 256 (ps.drop i) at_ acc) (fun _ _ x _ => ps.length - (intOf x).toNat)
  case atStart => exact ⟨0, 0, [], Nat.zero_le _, rfl, rfl, OwnI.nil _ _, Below.refl _ _, by simp, by simpa using hsum, HIT.out⟩
  case round =>
    obtain ⟨i, at_, acc, hil, rfl, rfl, hown, hbr, hacc, hat, hgo⟩ := hrel
    have hgr := hg1.below hbr
    have hUr := hU1.below hbr
    by_cases hlt : i < ps.length
    · obtain ⟨p, hp⟩ : ∃ p, ps[i]? = some p := ⟨_, List.getElem?_eq_getElem hlt⟩
      have hcell := (hbr.cell (p := ⟨w.heap.size, i, none⟩) hs1).trans (HC1.out i p hp)
      have hpz := HSZ.out p (List.mem_of_getElem? hp)
      have hst := sum_step hp
      rw [drop_cons' hp] at hgo
      rw [hst] at hat
      have hiI : (i : Int) < (ps.length : Int) := by omega
      clear hst hp
      by_cases h0 : p.size = 0
      · have e0 := isEmpty_yes h0
        rw [goG_none (stepQ_empty h0)] at hgo
        have HGO := Lib.hid hgo
        have hat4 : at_ ≤ 4000000 := by omega
        have HAT := Lib.hid hat
        have HL := Lib.hid hacc
        clear hgo hat hgr hUr hacc
        go_wp2_with fail
        go_roundw
        case rel => exact ⟨i + 1, at_ + p.size + 1, acc, by omega, by go_num, by go_num, hown, hbr, HL.out, by have := HAT.out; omega, HGO.out⟩
        case measure => simp [intOf]; omega
      · have e0 := isEmpty_no (Nat.pos_of_ne_zero h0)
        obtain ⟨va, vc, rfl, hvc, hvm, hsl⟩ := hown.sl
        unfold maxLen at hvm
        by_cases h256 : acc.length = 256
        · rw [goG_bad (by rw [decide_eq_true h256]; exact stepQ_many h0), Nat.add_zero] at hgo
          have HGO := Lib.hid hgo
          have eL : ((acc.length : Int) == 256) = true := by rw [beq_iff_eq]; omega
          have hb2 := hb1.trans (hbr.mono (Nat.le_of_lt hs1))
          clear hgo hat hown
          go_wp2_with fail
          refine (api_Fail' _ _ _).mono ?_
          rintro e w3 ⟨u, rfl, hu, hb3⟩
          go_wp2_with fail
          go_ret2
          exact ⟨Bt hb2 hb3, .inr ⟨by rw [HGO.out]; exact (by decide : (15 : Nat) ≠ 0), u, _, rfl, by rw [HGO.out]; exact hu⟩⟩
        · have eL : ((acc.length : Int) == 256) = false := by rw [beq_eq_false_iff_ne]; omega
          have HL : acc.length < 256 := by omega
          have hstep := stepQ_item h0
          have hd := decide_eq_false h256
          have HOK := Lib.hid (fun x h => hgo.trans (goG_ok (x := x) (ps := ps.drop (i + 1)) (at_ := at_) (acc := acc) (p := p) (g := stepQ) (most := 256) (by rw [hd, hstep]; exact congrArg some h)))
          have HBAD := Lib.hid (fun k j h => hgo.trans (goG_bad (k := k) (i := j) (ps := ps.drop (i + 1)) (at_ := at_) (acc := acc) (p := p) (g := stepQ) (most := 256) (by rw [hd, hstep]; exact congrArg some h)))
          have hat4 : at_ ≤ 4000000 := by omega
          have HAT := Lib.hid hat
          clear hgo hat hstep hd h256 h0
          go_wp2_with fail
          refine (query_item p at_ _ hgr hUr (by omega) hat4).mono ?_
          rintro e w3 ⟨hb3, h⟩
          have hbr3 := Bt hbr hb3
          have hown3 := hown.below hb3
          clear hgr hUr
          rcases h with ⟨x, hx, rfl⟩ | ⟨k, j, n, hx, u, rfl, hu⟩
          · have HGO := Lib.hid (HOK.out x hx)
            obtain ⟨xn, xv, xh⟩ := x
            clear hx HOK HBAD hown hbr hb3
            have hbr4 := (hbr3.alloc hbr3.size (.cells #[.string xn, .string xv, .bool xh] 102))
            have hown4 := hown3.below ((Below.refl w3.heap.size w3).alloc (Nat.le_refl _) (.cells #[.string xn, .string xv, .bool xh] 102))
            have hbr5 := hbr4.alloc hbr4.size (.cells #[.string xn, .string xv, .bool xh] 102)
            have hown5 := hown4.below ((Below.refl (w3.alloc (.cells #[.string xn, .string xv, .bool xh] 102)).heap.size (w3.alloc (.cells #[.string xn, .string xv, .bool xh] 102))).alloc (Nat.le_refl _) (.cells #[.string xn, .string xv, .bool xh] 102))
            have hl3 := (ItemAt.new (w := w3) (n := xn) (v := xv) (b := xh)).load
            have hbs := hbr3.size
            clear hown3 hown4 hbr4
            go_wp2_with (at_builtin; refine wpList_app_item rfl (.tmp 32) (.tmp 34) rfl w1.heap.size _ _ rfl hown5 (w3.heap.size + 1) 1 ⟨xn, xv, xh⟩ rfl (by have := heap_alloc_new (w3.alloc (.cells #[.string xn, .string xv, .bool xh] 102)) (.cells #[.string xn, .string xv, .bool xh] 102); rw [World.size_alloc] at this; exact this) (by omega) (by simp; omega) ?_)
            intro v4 w4 hown6 hg4
            have hbr6 := hown5.under hbr5 (Nat.le_refl _) hg4
            clear hown5 hbr5 hg4
            go_wp2_with fail
            go_roundw
            case rel => exact ⟨i + 1, at_ + p.size + 1, acc ++ [⟨xn, xv, xh⟩], by omega, by go_num, by go_num, hown6, hbr6, by simp; omega, by have := HAT.out; omega, HGO.out⟩
            case measure => simp [intOf]; omega
          · have HGO := Lib.hid (HBAD.out k j hx)
            obtain ⟨q, rfl⟩ := hu.ne_nil
            have hk := itemP_kind hx
            have hb2 := hb1.trans (hbr3.mono (Nat.le_of_lt hs1))
            have HK := Lib.hid hk
            have HX := Lib.hid hu
            have hb4 := hb2.alloc hb2.size (.cells #[.string ⟨#[]⟩, .string ⟨#[]⟩, .bool false] 102)
            have hz := (Below.refl w3.heap.size w3).alloc (Nat.le_refl _) (.cells #[.string ⟨#[]⟩, .string ⟨#[]⟩, .bool false] 102)
            clear hx HOK HBAD hown hbr hb3 hk hu hown3 hb2 hbr3
            go_wp2_with fail
            go_ret2
            exact ⟨hb4, .inr ⟨by rw [HGO.out]; show k ≠ 0; have := HK.out; omega, _, n, rfl, by rw [HGO.out]; exact HX.out.below hz⟩⟩
    · obtain rfl : i = ps.length := by omega
      rw [List.drop_length, goG_nil] at hgo
      have HGO := Lib.hid hgo
      have hb2 := hb1.trans (hbr.mono (Nat.le_of_lt hs1))
      have HO := Lib.hid (hown.base' (base' := w.heap.size) (by omega))
      clear hgo hat hown
      go_wp2_with fail
      go_ret2
      exact ⟨hb2, .inl ⟨by rw [HGO.out], _, rfl, by rw [HGO.out]; exact HO.out⟩⟩
end Go.Proofs.YtibhohpamnpkcaaGreatDoor

/- The values of a name, and the names, of items, in plain words. -/
namespace Go.Proofs.YtibhohpamnpkcaaGreatDoor

def valuesB (l : List It) (n : ByteArray) : List ByteArray := (l.filter fun x => decide (x.name = n)).map (·.value)
theorem values_snoc {l : List It} {k : Nat} {x : It} (n : ByteArray) (h : l[k]? = some x) : valuesB (l.take (k + 1)) n = if x.name = n then valuesB (l.take k) n ++ [x.value] else valuesB (l.take k) n := by
  unfold valuesB
  rw [List.take_add_one, h, List.filter_append, List.map_append]
  by_cases hx : x.name = n
  · rw [if_pos hx]; simp [hx]
  · rw [if_neg hx]; simp [hx]
theorem values_len (l : List It) (n : ByteArray) : (valuesB l n).length ≤ l.length := by
  unfold valuesB
  rw [List.length_map]
  exact List.length_filter_le _ _
/-- The names of the first so many items, each once. -/
def namesK (l : List It) : Nat → List ByteArray
  | 0 => []
  | k + 1 => match l[k]? with
    | some x => if (l.take k).any (fun y => decide (y.name = x.name)) then namesK l k else namesK l k ++ [x.name]
    | none => namesK l k
theorem names_old {l : List It} {k : Nat} {x : It} (h : l[k]? = some x) (h2 : (l.take k).any (fun y => decide (y.name = x.name)) = true) : namesK l (k + 1) = namesK l k := by
  show (match l[k]? with | some x => _ | none => _) = _
  rw [h]; dsimp only; rw [if_pos h2]
theorem names_new {l : List It} {k : Nat} {x : It} (h : l[k]? = some x) (h2 : (l.take k).any (fun y => decide (y.name = x.name)) = false) : namesK l (k + 1) = namesK l k ++ [x.name] := by
  show (match l[k]? with | some x => _ | none => _) = _
  rw [h]; dsimp only; rw [if_neg (by rw [h2]; decide)]
theorem names_mem (l : List It) (n : ByteArray) : ∀ k, k ≤ l.length → (n ∈ namesK l k ↔ (l.take k).any (fun y => decide (y.name = n)) = true) := by
  intro k
  induction k with
  | zero => intro _; simp [namesK]
  | succ k ih =>
    intro hk
    have hx := List.getElem?_eq_getElem (show k < l.length by omega)
    generalize l[k] = x at hx
    have ih := ih (by omega)
    rw [List.take_add_one, hx, List.any_append]
    cases hold : (l.take k).any (fun y => decide (y.name = x.name)) with
    | true =>
      rw [names_old hx hold, ih]
      by_cases hn : x.name = n
      · subst hn; rw [hold]; simp
      · simp [hn]
    | false =>
      rw [names_new hx hold, List.mem_append, ih]
      by_cases hn : x.name = n
      · subst hn; simp
      · have : n ≠ x.name := fun h => hn h.symm
        simp [hn, this]
theorem names_len (l : List It) : ∀ k, (namesK l k).length ≤ k := by
  intro k
  induction k with
  | zero => exact Nat.le_refl _
  | succ k ih =>
    cases h : l[k]? with
    | none =>
      have : namesK l (k + 1) = namesK l k := by show (match l[k]? with | some x => _ | none => _) = _; rw [h]
      rw [this]; omega
    | some x =>
      cases hold : (l.take k).any (fun y => decide (y.name = x.name)) with
      | true => rw [names_old h hold]; omega
      | false => rw [names_new h hold]; simp; omega
theorem any_snoc {l : List It} {k : Nat} {x : It} (P : It → Bool) (h : l[k]? = some x) : (l.take (k + 1)).any P = ((l.take k).any P || P x) := by
  rw [List.take_add_one, h, List.any_append]
  simp
end Go.Proofs.YtibhohpamnpkcaaGreatDoor

/- slices.IndexFunc and ContainsFunc of items. -/
namespace Go.Proofs.YtibhohpamnpkcaaGreatDoor
open Go.RowKit

/-- The first place at which a test says yes; -1: none. -/
def findI (P : It → Bool) (l : List It) : Int := match l.findIdx? P with | some i => (i : Int) | none => -1
theorem findI_hit {P : It → Bool} {l : List It} {i : Nat} {x : It} (h : l[i]? = some x) (hx : P x = true) (hall : ∀ (j : Nat) (y : It), j < i → l[j]? = some y → P y = false) : findI P l = i := by
  unfold findI
  have : l.findIdx? P = some i := by
    rw [List.findIdx?_eq_some_iff_getElem]
    obtain ⟨hi, rfl⟩ := List.getElem?_eq_some_iff.1 h
    exact ⟨hi, hx, fun j hj => by rw [hall j _ hj (List.getElem?_eq_getElem (by omega))]; decide⟩
  rw [this]
theorem findI_none {P : It → Bool} {l : List It} (hall : ∀ (j : Nat) (y : It), l[j]? = some y → P y = false) : findI P l = -1 := by
  unfold findI
  have : l.findIdx? P = none := by
    rw [List.findIdx?_eq_none_iff]
    intro x hx
    obtain ⟨i, hi, rfl⟩ := List.mem_iff_getElem.1 hx
    exact hall i _ (List.getElem?_eq_getElem hi)
  rw [this]
theorem ItemsOwn.take {w : World} {a : Option Addr} {l : List It} (h : ItemsOwn w a l) (n : Nat) : ItemsOwn w a (l.take n) := by
  intro i p hp
  refine h i p ?_
  rw [List.getElem?_take] at hp
  split at hp
  · exact hp
  · cases hp
/-- A test that a closure makes of items, in whatever world lies behind w. -/
def TestI (w : World) (f : FuncId) (caps : Array Value) (P : It → Bool) : Prop := ∀ (W : World) (x : It), Below w.heap.size w W → Calls Tryz.prog f (#[.agg #[.string x.name, .string x.value, .bool x.has]] ++ caps) W fun e w' => e = .returned (.bool (P x)) ∧ Below W.heap.size W w'
set_option maxHeartbeats 1600000 in
set_option maxRecDepth 100000 in
theorem items_IndexFunc (pa : Option Addr) (c : Nat) (l : List It) (f : FuncId) (q : Nat) (P : It → Bool) (w : World) (hsl : ItemsOwn w pa l) (hl : l.length ≤ 16777216) (eg : ∀ args w, (callFunc f args).run Tryz.prog w = .ok (.enter f args) w) (hf : TestI w f #[.pointer (some ⟨q, 0, none⟩)] P) :
    Calls Tryz.prog 99 #[.slice pa l.length c, .func (.func f) #[] #[.pointer (some ⟨q, 0, none⟩)]] w fun e w' => e = .returned (.int .i64 (findI P l)) ∧ Below w.heap.size w w' := by
  have hF := Lib.hid hf
  clear hf
  go_enter Tryz.func99, Tryz.ntmps99
  go_wp2_with fail
  go_loopw [8] (fun x wr => ∃ i : Nat, i ≤ l.length ∧ x = .int .i64 i ∧ Below w.heap.size w wr ∧ ∀ (j : Nat) (y : It), j < i → l[j]? = some y → P y = false) (fun x _ => l.length - (intOf x).toNat)
  case atStart => exact ⟨0, Nat.zero_le _, rfl, Below.refl _ _, fun j y h => by omega⟩
  case round =>
    obtain ⟨i, hil, rfl, hbr, hall⟩ := hrel
    have HA := Lib.hid hall
    clear hall
    by_cases hlt : i < l.length
    · obtain ⟨x, hx⟩ : ∃ x, l[i]? = some x := ⟨_, List.getElem?_eq_getElem hlt⟩
      obtain ⟨b, rfl, hb, d0, d1, d2⟩ := (hsl.below hbr) i x hx
      have hhit := fun h => findI_hit hx h HA.out
      have hst : P x = false → ∀ (j : Nat) (y : It), j < i + 1 → l[j]? = some y → P y = false := fun h j y hj hy => by
        by_cases hji : j = i
        · subst hji; rw [hx] at hy; cases hy; exact h
        · exact HA.out j y (by omega) hy
      have HHIT := Lib.hid hhit
      have HST := Lib.hid hst
      have cF := Lib.hid (hF.out wr x hbr)
      obtain ⟨xn, xv, xh⟩ := x
      have hiI : (i : Int) < (l.length : Int) := by omega
      clear hhit hst hx HA hF
      generalize P ⟨xn, xv, xh⟩ = r at *
      go_wp2_with fail
      refine cF.out.mono ?_
      rintro e w2 ⟨rfl, hb2⟩
      have hbr2 := Bt hbr hb2
      cases r
      · have HX := Lib.hid (HST.out rfl)
        go_wp2_with fail
        go_roundw
        case rel => exact ⟨i + 1, by omega, by go_num, hbr2, HX.out⟩
        case measure => simp [intOf]; omega
      · have HX := Lib.hid (HHIT.out rfl)
        go_wp2_with fail
        go_ret
        exact ⟨ret_i64 HX.out.symm, hbr2⟩
    · obtain rfl : i = l.length := by omega
      have hn : findI P l = -1 := findI_none fun j y hy => HA.out j y (List.getElem?_eq_some_iff.1 hy).1 hy
      have HN := Lib.hid hn
      clear hn
      go_wp2_with fail
      go_ret
      exact ⟨ret_i64 HN.out.symm, hbr⟩
theorem findI_any (P : It → Bool) (l : List It) : decide (0 ≤ findI P l) = l.any P := by
  unfold findI
  cases h : l.findIdx? P with
  | none =>
    rw [List.findIdx?_eq_none_iff] at h
    have : l.any P = false := by rw [List.any_eq_false]; intro x hx; rw [h x hx]; decide
    rw [this]; rfl
  | some i =>
    rw [List.findIdx?_eq_some_iff_getElem] at h
    obtain ⟨hi, hx, _⟩ := h
    have : l.any P = true := by rw [List.any_eq_true]; exact ⟨l[i], List.getElem_mem _, hx⟩
    rw [this]
    simp
set_option maxHeartbeats 800000 in
theorem items_ContainsFunc (pa : Option Addr) (c : Nat) (l : List It) (f : FuncId) (q : Nat) (P : It → Bool) (w : World) (hsl : ItemsOwn w pa l) (hl : l.length ≤ 16777216) (eg : ∀ args w, (callFunc f args).run Tryz.prog w = .ok (.enter f args) w) (hf : TestI w f #[.pointer (some ⟨q, 0, none⟩)] P) :
    Calls Tryz.prog 97 #[.slice pa l.length c, .func (.func f) #[] #[.pointer (some ⟨q, 0, none⟩)]] w fun e w' => e = .returned (.bool (l.any P)) ∧ Below w.heap.size w w' := by
  have cI := Lib.hid (items_IndexFunc pa c l f q P w hsl hl eg hf)
  have HA := Lib.hid (findI_any P l)
  generalize findI P l = i at *
  clear hf hsl eg
  go_enter Tryz.func97, Tryz.ntmps97
  go_wp2_with fail
  refine cI.out.mono ?_
  rintro e w2 ⟨rfl, hb2⟩
  go_wp2_with fail
  go_ret
  exact ⟨ret_bool HA.out, hb2⟩
end Go.Proofs.YtibhohpamnpkcaaGreatDoor
