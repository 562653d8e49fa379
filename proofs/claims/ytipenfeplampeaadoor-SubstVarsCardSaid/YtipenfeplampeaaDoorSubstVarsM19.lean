/- subst.Match: the walk. -/
import Derived.Test.YtipenfeplampeaaDoorSubstVarsM18
import Derived.Test.YtipenfeplampeaaDoorSubstVarsM13

namespace Go.Proofs.YtipenfeplampeaaDoor
open Go.RowKit

theorem pcF_text (p : ByteArray) : ∀ f k, k ≤ p.size → ∀ q ∈ (pcF p f k).1, q.text.size ≤ p.size := by
  intro f
  induction f with
  | zero => intro k _ q hq; simp [pcF] at hq
  | succ f ih =>
    intro k hk q hq
    rw [pcF] at hq
    by_cases hlt : k < p.size
    · rw [if_pos hlt] at hq
      have hes := extract_tail_size p k hk
      rcases idx_pair (p.extract k p.size).data.toList with hi | ⟨n, hi, hn⟩
      · rw [hi, if_pos (by decide)] at hq
        simp at hq
        subst hq
        show (p.extract k p.size).size ≤ _
        omega
      · rw [show (p.extract k p.size).data.toList.length = (p.extract k p.size).size from rfl, hes] at hn
        rw [hi, if_neg (by omega), Int.toNat_natCast, pre_int] at hq
        have hpre : ∀ q ∈ preP p k n, q.text.size ≤ p.size := by
          intro q hq
          unfold preP at hq
          split at hq
          · simp at hq
            subst hq
            show (p.extract k (k + n)).size ≤ _
            rw [extract_size p k (k + n) (by omega) (by omega)]
            omega
          · cases hq
        by_cases hc : cutH 41 (p.extract (k + n + 2) p.size) = true
        · rw [if_pos hc] at hq
          have hr := cut_room hc
          have he := extract_tail_size p (k + n + 2) (by omega)
          rw [he] at hr
          rcases List.mem_append.1 hq with h | h
          · exact hpre q h
          · rcases List.mem_cons.1 h with rfl | h
            · show (cutN 41 _).size ≤ _
              omega
            · exact ih _ (by omega) q h
        · rw [if_neg hc] at hq
          exact hpre q hq
    · rw [if_neg hlt] at hq; cases hq
set_option maxHeartbeats 6400000 in
set_option maxRecDepth 100000 in
theorem sub_Match (p s : ByteArray) (av : Option Addr) (vcap : Nat) (vars : List SVar) (fold : Bool) (w : World) (hU : Utf8Laid w) (hL : ClassLaid w) (hM : MaxAt w) (hv : VarsSl w av vars) (hp : p.size ≤ 16777216) (hs : s.size ≤ 16777216) (hvl : vars.length ≤ 16777216) (hvs : ∀ v ∈ vars, v.2.length ≤ 16777216 ∧ ∀ s ∈ v.2, s.size ≤ 16777216) :
    Calls Tryd.prog 14 #[.string p, .slice av vars.length vcap, .string s, .bool fold] w fun e w' => e = .returned (.bool (subM p vars s fold)) ∧ Below w.heap.size w w' := by
  have HVS := Lib.hid hvs
  clear hvs
  go_enter Tryd.func14, Tryd.ntmps14
  go_wp2_with ((with_reducible refine wpList_bytes_sl rfl 9 45 5 _ rfl s rfl Tryd.underlying9 Tryd.underlying45 Tryd.underlying5 (by omega) ?_); intro v1 w1 hv1 hb1)
  refine (utf_Chars v1 s _ (hU.below hb1) hs hv1).mono ?_
  rintro e w2 ⟨hb2, h⟩
  have hb12 := Bt hb1 hb2
  have hU2 := hU.below hb12
  have hL2 := hL.below hb12
  have hM2 := hM.below hb12
  have hv2 := hv.below hb12
  rcases h with ⟨hn, v3, rfl, hownc⟩ | ⟨i, hi, v3, rfl, hv3⟩
  · obtain ⟨a, c, rfl, hc1, hc2, hsl⟩ := chars_sl hownc rfl
    clear hv1 hb1 hb2 hU hL hM hv hownc
    go_wp2_with fail
    refine (sub_Check p av vcap vars _ hU2 hL2 hM2 hv2 hp hvl).mono ?_
    rintro e w3 ⟨hb3, h⟩
    have hb13 := Bt hb12 hb3
    rcases h with ⟨hok, _, rfl⟩ | ⟨hok, _, v4, rfl, hv4⟩
    · have hM3 := hM2.below hb3
      have hsl3 := hsl.below hb3
      have hU3 := hU2.below hb3
      have hL3 := hL2.below hb3
      have hvv3 := hv2.below hb3
      clear hb12 hb3 hM2 hsl hU2 hL2 hv2
      go_wp2_with fail
      refine (sub_pieces p _ hM3 hp).mono ?_
      rintro e w4 ⟨v4, rfl, hown, hb4⟩
      obtain ⟨a4, n4, c4, rfl⟩ := hown.shape3
      obtain ⟨hn4, hc4, hcm, hpl⟩ := hown.sl
      subst hn4
      have hb14 := Bt hb13 hb4
      have hsl4 := hsl3.below hb4
      have hU4 := hU3.below hb4
      have hL4 := hL3.below hb4
      have hv4 := hvv3.below hb4
      have hplen := pcs_len p (p.size + 1) 0 (Nat.zero_le _)
      rw [show (pcF p (p.size + 1) 0).1 = (pcs p).1 from rfl] at hplen
      have htx := pcF_text p (p.size + 1) 0 (Nat.zero_le _)
      rw [show (pcF p (p.size + 1) 0).1 = (pcs p).1 from rfl] at htx
      have hlen := chrs_len s
      have hcs : ∀ c ∈ (chrs s).1, c ≤ 1114111 := chrs_le
      have hplain := fun q h1 h2 => subM_plain (fold := fold) (q := q) hn hok h1 h2
      have hrun := subM_run (fold := fold) hn hok
      have HPL := Lib.hid hplain
      have HRUN := Lib.hid hrun
      unfold maxLen at hcm hc2
      clear hplain hrun hb13 hsl3 hU3 hL3 hvv3 hown hM3 hb4 hn
      generalize (chrs s).1 = cs at *
      generalize (pcs p).1 = qs at *
      have HTX := Lib.hid htx
      have HCS := Lib.hid hcs
      clear htx hcs hok
      by_cases hone : ∃ q, qs = [q] ∧ q.isVar = false
      · obtain ⟨q, rfl, hqv⟩ := hone
        have HR := Lib.hid (HPL.out q rfl hqv)
        obtain ⟨b, ha, hbw, d0, d1, d2⟩ := hpl 0 q rfl
        subst ha
        rw [hqv] at d1
        simp only [Nat.zero_mul, Nat.zero_add] at d1
        clear hqv HPL HRUN d0 d2 hpl hv4 hsl4 hL4 HTX HCS
        go_wp2_with fail
        refine (glob_Match p s fold _ hU4 hp hs).mono ?_
        rintro e w5 ⟨rfl, hb5⟩
        have hb15 := Bt hb14 hb5
        go_wp2_with fail
        go_ret
        exact ⟨ret_bool HR.out.symm, hb15⟩
      · clear HPL
        go_upto_region 5 with (fail)
        go_cut [45] (fun v wx => v = .bool false ∧ w4 = wx)
        case first =>
          clear HRUN HTX HCS hv4 hsl4 hL4 hU4
          by_cases hl1 : qs.length = 1
          · have e1 : ((qs.length : Int) == 1) = true := by rw [beq_iff_eq]; omega
            have hI0 : (0 : Int) < (qs.length : Int) := by omega
            obtain ⟨q, hq⟩ := List.length_eq_one_iff.1 hl1
            have hqv : q.isVar = true := by
              cases hc : q.isVar
              · exact absurd ⟨q, hq, hc⟩ hone
              · rfl
            obtain ⟨b, ha, hbw, _, d1, _⟩ := hpl 0 q (by rw [hq]; rfl)
            have HA := Lib.hid ha
            rw [hqv] at d1
            simp only [Nat.zero_mul, Nat.zero_add] at d1
            clear hq hl1 hone hpl hplen hqv
            subst ha
            go_wp2_with fail
            go_meet
            exact ⟨rfl, rfl⟩
          · have e1 : ((qs.length : Int) == 1) = false := by rw [beq_eq_false_iff_ne]; omega
            clear hone hpl hplen hl1
            go_wp2_with fail
            go_meet
            exact ⟨rfl, rfl⟩
        case rest =>
          obtain ⟨rfl, rfl⟩ := hcut
          have hst5 : Below w4.heap.size w4 (w4.alloc (.cells #[.slice a cs.length c, .slice av vars.length vcap, .bool fold] 76)) := (Below.refl _ _).alloc (Nat.le_refl _) _
          have hq5 := heap_alloc_new w4 (.cells #[.slice a cs.length c, .slice av vars.length vcap, .bool fold] 76)
          have hmk := make_bools cs.length (by omega)
          have hfz0 := (World.rowIs_made (w4.alloc (.cells #[.slice a cs.length c, .slice av vars.length vcap, .bool fold] 76)) (.bool false) (cs.length + 1) 4).frozen 0
          have hc0 := (World.rowIs_made (w4.alloc (.cells #[.slice a cs.length c, .slice av vars.length vcap, .bool fold] 76)) (.bool false) (cs.length + 1) 4).cell (i := 0) (by omega)
          have hrow0 := row_start (w4.alloc (.cells #[.slice a cs.length c, .slice av vars.length vcap, .bool fold] 76)) cs.length
          have hst6 : Below (w4.alloc (.cells #[.slice a cs.length c, .slice av vars.length vcap, .bool fold] 76)).heap.size (w4.alloc (.cells #[.slice a cs.length c, .slice av vars.length vcap, .bool fold] 76)) ((w4.alloc (.cells #[.slice a cs.length c, .slice av vars.length vcap, .bool fold] 76)).alloc (.cells ((madeCells #[.bool false] (cs.length + 1)).setIfInBounds 0 (.bool true)) 4)) := (Below.refl _ _).alloc (Nat.le_refl _) _
          have hb06 := Bt hst5 hst6
          have m0 := (hst6.cell (p := ⟨w4.heap.size, 0, none⟩) (by simp)).trans (cell_of_row _ _ 0 _ _ _ hq5)
          have m1 := (hst6.cell (p := ⟨w4.heap.size, 1, none⟩) (by simp)).trans (cell_of_row _ _ 1 _ _ _ hq5)
          have m2 := (hst6.cell (p := ⟨w4.heap.size, 2, none⟩) (by simp)).trans (cell_of_row _ _ 2 _ _ _ hq5)
          have hmat : MatAt ((w4.alloc (.cells #[.slice a cs.length c, .slice av vars.length vcap, .bool fold] 76)).alloc (.cells ((madeCells #[.bool false] (cs.length + 1)).setIfInBounds 0 (.bool true)) 4)) w4.heap.size a cs.length c cs (.slice av vars.length vcap) fold := ⟨by simp; omega, m0, m1, m2, rfl, hsl4.below hb06⟩
          have hU6 := hU4.below hb06
          have hL6 := hL4.below hb06
          have hv6 := hv4.below hb06
          have hp6 := hpl.below hb06
          have hb16 := Bt hb14 hb06
          rw [World.size_alloc] at hrow0 hfz0 hc0
          have HMAT := Lib.hid hmat
          clear hst5 hq5 hst6 hb06 m0 m1 m2 hmat hU4 hL4 hv4 hpl hb14 hsl4
          go_wp2_with fail
          generalize (w4.alloc (.cells #[.slice a cs.length c, .slice av vars.length vcap, .bool fold] 76)).alloc (.cells ((madeCells #[.bool false] (cs.length + 1)).setIfInBounds 0 (.bool true)) 4) = w6 at *
          generalize w4.heap.size = n5 at *
          clear hmk hfz0 hc0
          go_loopw [14, 63] (fun v x wr => ∃ (i gn : Nat) (F : Nat → Bool), i ≤ qs.length ∧ x = .int .i64 i ∧ v = .slice (some ⟨gn, 0, none⟩) (cs.length + 1) (cs.length + 1) ∧ wr.rowIs gn 4 (cs.length + 1) (boolsF F) ∧ runR fold cs vars (qs.drop i) F = runR fold cs vars qs (fun i => decide (i = 0)) ∧ Below w6.heap.size w6 wr) (fun _ x _ => qs.length - (intOf x).toNat)
          case atStart => exact ⟨0, n5 + 1, startF, Nat.zero_le _, rfl, rfl, hrow0, by rw [List.drop_zero]; rfl, Below.refl _ _⟩
          case round =>
            obtain ⟨i, gn, F, hil, rfl, rfl, hr, hrn, hbr⟩ := hrel
            clear hrow0
            by_cases hlt : i < qs.length
            · have hiI : (i : Int) < (qs.length : Int) := by omega
              obtain ⟨q, hq⟩ : ∃ q, qs[i]? = some q := ⟨_, List.getElem?_eq_getElem hlt⟩
              obtain ⟨b, ha, hbw, d0, d1, d2⟩ := (hp6.below hbr) i q hq
              have hdr : qs.drop i = q :: qs.drop (i + 1) := by
                obtain ⟨hi, rfl⟩ := List.getElem?_eq_some_iff.1 hq
                exact List.drop_eq_getElem_cons hi
              rw [hdr, runR] at hrn
              have hqt := HTX.out q (List.mem_of_getElem? hq)
              have hal : Below wr.heap.size wr (wr.alloc (.cells #[.string q.text, .bool q.isVar, .int .i64 (q.place : Int)] 73)) := (Below.refl _ _).alloc (Nat.le_refl _) _
              have hb7 := Bt hbr hal
              have hr7 := row_below hr hal
              have HST := Lib.hid (fun W h1 h2 h3 h4 h5 => sub_step n5 gn (cs.length + 1) cs.length c vcap a av vars cs q F fold W h1 h2 h3 h4 (by omega) hc1 h5 HCS.out (by omega) hvl HVS.out)
              have HRN := Lib.hid hrn
              have hU7 := hU6.below hb7
              have hL7 := hL6.below hb7
              have hv7 := hv6.below hb7
              have hm7 := HMAT.out.below hb7
              have HM7 := Lib.hid hm7
              subst ha
              clear hq hdr hrn hm7 hal hr hbr hp6
              obtain ⟨tx, iv, pl⟩ := q
              simp only at d0 d1 d2
              go_wp2_with fail
              refine (HST.out _ hU7 hL7 HM7.out hv7 hr7).mono ?_
              rintro e w8 ⟨gn8, rfl, hr8, hgn8, hb8⟩
              have hb68 := Bt hb7 hb8
              clear HST HM7 hU7 hL7 hv7 hr7 hb7 hb8
              go_wp2_with fail
              go_roundw
              case rel => exact ⟨i + 1, gn8, _, by omega, by go_num, rfl, hr8, HRN.out, hb68⟩
              case measure => simp [intOf]; omega
            · obtain rfl : i = qs.length := by omega
              rw [List.drop_length, runR] at hrn
              have cl := hr.cell (i := cs.length) (by omega)
              have hgl := hr.lt
              have e9 : boolsF F cs.length = .bool (F cs.length) := rfl
              rw [e9] at cl
              have HR := Lib.hid (show F cs.length = subM p vars s fold by rw [HRUN.out, hrn])
              have hb0 := Bt hb16 hbr
              clear hrn e9 hr hbr HRUN
              go_wp2_with fail
              go_ret
              exact ⟨ret_bool HR.out, hb0⟩
    · obtain ⟨q, rfl⟩ := hv4.ne_nil
      have HV := Lib.hid (subM_no (s := s) (fold := fold) hok)
      clear hok hn
      go_wp2_with fail
      go_ret
      exact ⟨ret_bool HV.out.symm, hb13⟩
  · obtain ⟨q, rfl⟩ := hv3.ne_nil
    have HV := Lib.hid (subM_bad (p := p) (vars := vars) (fold := fold) hi)
    clear hi
    go_wp2_with fail
    go_ret
    exact ⟨ret_bool HV.out.symm, hb12⟩
end Go.Proofs.YtipenfeplampeaaDoor

/- The law's own check that subst speaks. -/
namespace Go.Proofs.YtipenfeplampeaaDoor
open Go.RowKit

def spV : List SVar := [(⟨#[102, 111, 111, 100]⟩, [⟨#[112, 105, 122, 122, 97]⟩, ⟨#[116, 97, 99, 111, 42]⟩])]
def spP : ByteArray := ⟨#[47, 36, 40, 108, 97, 110, 103, 41, 47, 36, 40, 102, 111, 111, 100, 41, 47, 42]⟩
theorem sp19_a : subM spP spV ⟨#[47, 101, 110, 47, 116, 97, 99, 111, 115, 47, 49]⟩ false = true := by decide +kernel
theorem sp19_b : subM spP spV ⟨#[47, 69, 78, 47, 112, 105, 122, 122, 97, 47]⟩ false = false := by decide +kernel
theorem sp19_c : subM spP spV ⟨#[47, 69, 78, 47, 112, 105, 122, 122, 97, 47]⟩ true = true := by decide +kernel
theorem strs_two {w : World} {b : Nat} {t : TypeId} {x y : ByteArray} (h : w.heap[b]? = some (.cells #[.string x, .string y] t (0, 0))) : StrsV w (.slice (some ⟨b, 0, none⟩) 2 2) [x, y] :=
  ⟨_, _, rfl, Nat.le_refl _, fun i s hs => by
    match i, hs with
    | 0, hs => cases hs; exact ⟨b, 0, rfl, lt_of_block h, cell_of_row _ _ 0 _ _ _ h⟩
    | 1, hs => cases hs; exact ⟨b, 0, rfl, lt_of_block h, cell_of_row _ _ 1 _ _ _ h⟩⟩
theorem strs_single {w : World} {b : Nat} {t : TypeId} {x : ByteArray} (h : w.heap[b]? = some (.cells #[.string x] t (0, 0))) : StrsV w (.slice (some ⟨b, 0, none⟩) 1 1) [x] :=
  ⟨_, _, rfl, Nat.le_refl _, fun i s hs => by
    match i, hs with
    | 0, hs => cases hs; exact ⟨b, 0, rfl, lt_of_block h, cell_of_row _ _ 0 _ _ _ h⟩⟩
set_option maxHeartbeats 1600000 in
set_option maxRecDepth 100000 in
theorem speaks19 (w : World) (hU : Utf8Laid w) (hL : ClassLaid w) (hM : MaxAt w) : Calls Tryd.prog 5 #[] w fun e w' => e = .returned (.bool true) ∧ Below w.heap.size w w' := by
  have hst1 : Below w.heap.size w (w.alloc (.cells #[.string ⟨#[112, 105, 122, 122, 97]⟩, .string ⟨#[116, 97, 99, 111, 42]⟩] 9)) := (Below.refl _ _).alloc (Nat.le_refl _) _
  have hq1 := heap_alloc_new w (.cells #[.string ⟨#[112, 105, 122, 122, 97]⟩, .string ⟨#[116, 97, 99, 111, 42]⟩] 9)
  have hB2 : Below (w.alloc (.cells #[.string ⟨#[112, 105, 122, 122, 97]⟩, .string ⟨#[116, 97, 99, 111, 42]⟩] 9)).heap.size (w.alloc (.cells #[.string ⟨#[112, 105, 122, 122, 97]⟩, .string ⟨#[116, 97, 99, 111, 42]⟩] 9)) ((w.alloc (.cells #[.string ⟨#[112, 105, 122, 122, 97]⟩, .string ⟨#[116, 97, 99, 111, 42]⟩] 9)).alloc (.cells #[.string ⟨#[102, 111, 111, 100]⟩, .slice (some ⟨w.heap.size, 0, none⟩) 2 2] 24)) := (Below.refl _ _).alloc (Nat.le_refl _) _
  have hq2 := heap_alloc_new (w.alloc (.cells #[.string ⟨#[112, 105, 122, 122, 97]⟩, .string ⟨#[116, 97, 99, 111, 42]⟩] 9)) (.cells #[.string ⟨#[102, 111, 111, 100]⟩, .slice (some ⟨w.heap.size, 0, none⟩) 2 2] 24)
  rw [World.size_alloc] at hq2
  have hb := Bt hst1 hB2
  have hsv := (strs_two hq1).below hB2
  have hvs : VarsSl ((w.alloc (.cells #[.string ⟨#[112, 105, 122, 122, 97]⟩, .string ⟨#[116, 97, 99, 111, 42]⟩] 9)).alloc (.cells #[.string ⟨#[102, 111, 111, 100]⟩, .slice (some ⟨w.heap.size, 0, none⟩) 2 2] 24)) (some ⟨w.heap.size + 1, 0, none⟩) spV :=
    ⟨[(⟨#[102, 111, 111, 100]⟩, .slice (some ⟨w.heap.size, 0, none⟩) 2 2)], fun i x hx => by
      match i, hx with
      | 0, hx => cases hx; exact ⟨w.heap.size + 1, 0, rfl, lt_of_block hq2, cell_of_row _ _ 0 _ _ _ hq2, cell_of_row _ _ 1 _ _ _ hq2⟩, rfl, fun i v hv => by
      match i, hv with
      | 0, hv => cases hv; exact ⟨_, rfl, hsv⟩⟩
  have hU2 := hU.below hb
  have hL2 := hL.below hb
  have hM2 := hM.below hb
  have hsz : ∀ v ∈ spV, v.2.length ≤ 16777216 ∧ ∀ s ∈ v.2, s.size ≤ 16777216 := by decide
  have cM : ∀ (s : ByteArray) (f : Bool) (W : World), s.size ≤ 16777216 → Below ((w.alloc (.cells #[.string ⟨#[112, 105, 122, 122, 97]⟩, .string ⟨#[116, 97, 99, 111, 42]⟩] 9)).alloc (.cells #[.string ⟨#[102, 111, 111, 100]⟩, .slice (some ⟨w.heap.size, 0, none⟩) 2 2] 24)).heap.size ((w.alloc (.cells #[.string ⟨#[112, 105, 122, 122, 97]⟩, .string ⟨#[116, 97, 99, 111, 42]⟩] 9)).alloc (.cells #[.string ⟨#[102, 111, 111, 100]⟩, .slice (some ⟨w.heap.size, 0, none⟩) 2 2] 24)) W →
      Calls Tryd.prog 14 #[.string ⟨#[47, 36, 40, 108, 97, 110, 103, 41, 47, 36, 40, 102, 111, 111, 100, 41, 47, 42]⟩, .slice (some ⟨w.heap.size + 1, 0, none⟩) 1 1, .string s, .bool f] W fun e w' => e = .returned (.bool (subM spP spV s f)) ∧ Below W.heap.size W w' := fun s f W hs hW =>
    sub_Match spP s (some ⟨w.heap.size + 1, 0, none⟩) 1 spV f W (hU2.below hW) (hL2.below hW) (hM2.below hW) (hvs.below hW) (by decide) hs (by decide) hsz
  have CA := Lib.hid (fun W h => sp19_a ▸ cM ⟨#[47, 101, 110, 47, 116, 97, 99, 111, 115, 47, 49]⟩ false W (by decide) h)
  have CB := Lib.hid (fun W h => sp19_b ▸ cM ⟨#[47, 69, 78, 47, 112, 105, 122, 122, 97, 47]⟩ false W (by decide) h)
  have CC := Lib.hid (fun W h => sp19_c ▸ cM ⟨#[47, 69, 78, 47, 112, 105, 122, 122, 97, 47]⟩ true W (by decide) h)
  clear cM hvs hsv hq1 hq2 hsz hU2 hL2 hM2 hst1 hB2
  go_enter Tryd.func5, Tryd.ntmps5
  go_wp2_with fail
  refine (CA.out _ (Below.refl _ _)).mono ?_
  rintro e w3 ⟨rfl, hb3⟩
  go_wp2_with fail
  refine (CB.out _ hb3).mono ?_
  rintro e w4 ⟨rfl, hb4⟩
  have hb34 := Bt hb3 hb4
  go_wp2_with fail
  refine (CC.out _ hb34).mono ?_
  rintro e w5 ⟨rfl, hb5⟩
  have hb35 := Bt hb34 hb5
  have hb05 := Bt hb hb35
  go_wp2_with fail
  go_ret
  exact ⟨rfl, hb05⟩
end Go.Proofs.YtipenfeplampeaaDoor

/- errors.Is at a fault and a number: its contract; the statements' Has. -/
namespace Go.Proofs.YtipenfeplampeaaDoor
open Go.RowKit Go.Extern.Stop Go.Stop Go.Extern

theorem ret_beq {a b c : Int} (h : c = b) : Ending.returned (.bool (a == b)) = .returned (.bool (a == c)) := by rw [h]
theorem Is_assertErrno (v : Value) (w : World) : (Instr.typeAssert (.iface 33 v) 29 33 true).run Tryd.prog w = .ok (.tuple #[v, .bool true]) w := by kernel_rfl

set_option maxHeartbeats 800000 in
set_option maxRecDepth 100000 in
theorem fault_Is (b : Nat) (k i n : Int) (inner : Value) (w : World) (hblk : w.heap[b]? = some (.cells #[.int .i64 k, .int .i64 i, inner] 58 (0, 0))) :
    Calls Tryd.prog 98 #[.pointer (some ⟨b, 0, none⟩), .iface 33 (.int .i64 n)] w fun e w' => e = .returned (.bool (n == k)) ∧ w = w' := by
  have hc : w.cell? ⟨b, 0, none⟩ = some (.int .i64 k) := by rw [cell_of_row w b 0 _ _ _ hblk]; rfl
  clear hblk
  have ta := Is_assertErrno
  go_enter Tryd.func98, Tryd.ntmps98
  go_wp2_with fail
  go_ret
  exact ⟨rfl, rfl⟩

set_option maxHeartbeats 800000 in
set_option maxRecDepth 100000 in
theorem fault_Unwrap (b : Nat) (k i : Int) (inner : Value) (w : World) (hblk : w.heap[b]? = some (.cells #[.int .i64 k, .int .i64 i, inner] 58 (0, 0))) :
    Calls Tryd.prog 99 #[.pointer (some ⟨b, 0, none⟩)] w fun e w' => e = .returned inner ∧ w = w' := by
  have hc : w.cell? ⟨b, 2, none⟩ = some inner := by rw [cell_of_row w b 2 _ _ _ hblk]; rfl
  clear hblk
  go_enter Tryd.func99, Tryd.ntmps99
  go_wp2_with fail
  go_ret
  exact ⟨rfl, rfl⟩

theorem Is_eq (p : Addr) (n : Int) (w : World) : (binOp .eql 29 (.iface 54 (.pointer (some p))) (.iface 33 (.int .i64 n))).run Tryd.prog w = .ok (.bool false) w := by kernel_rfl
theorem Is_assertIs (p : Addr) (w : World) : (Instr.typeAssert (.iface 54 (.pointer (some p))) 29 128 true).run Tryd.prog w = .ok (.tuple #[.iface 54 (.pointer (some p)), .bool true]) w := by kernel_rfl
theorem Is_assertUnwrap (p : Addr) (w : World) : (Instr.typeAssert (.iface 54 (.pointer (some p))) 29 123 true).run Tryd.prog w = .ok (.tuple #[.iface 54 (.pointer (some p)), .bool true]) w := by kernel_rfl
theorem Is_methodIs (p : Addr) (w : World) : (Go.method 282 54 (.pointer (some p)) "Is").run Tryd.prog w = .ok (98, .pointer (some p)) w := by kernel_rfl
theorem Is_methodUnwrap (p : Addr) (w : World) : (Go.method 282 54 (.pointer (some p)) "Unwrap").run Tryd.prog w = .ok (99, .pointer (some p)) w := by kernel_rfl
theorem Is_typeOf (v : Value) (w : World) : (ReflectliteType.typeOf #[.iface 33 v]).run Tryd.prog w = .ok (.iface 116 (.agg #[.pointer (some ⟨5, 33, none⟩)])) w := by kernel_rfl
theorem Is_methodComparable (h : Value) (w : World) : (Go.method 282 116 (.agg #[h]) "Comparable").run Tryd.prog w = .ok (105, .agg #[h]) w := by kernel_rfl

/-- What errors.Is tells of a fault that came from nothing, or from such a one. -/
def isKind (n k : Int) : Bool := n == k

set_option maxHeartbeats 1600000 in
set_option maxRecDepth 100000 in
theorem errors_is (b : Nat) (k i n : Int) (w : World) (hblk : w.heap[b]? = some (.cells #[.int .i64 k, .int .i64 i, .nilIface] 58 (0, 0))) :
    Calls Tryd.prog 39 #[.iface 54 (.pointer (some ⟨b, 0, none⟩)), .iface 33 (.int .i64 n), .bool true] w fun e w' => e = .returned (.bool (isKind n k)) ∧ w = w' := by
  have c1 := Lib.hid (fault_Is b k i n .nilIface w hblk)
  have c2 := Lib.hid (fault_Unwrap b k i .nilIface w hblk)
  clear hblk
  have f1 := Is_eq
  have f2 := Is_assertIs
  have f3 := Is_assertUnwrap
  have f4 := Is_methodIs
  have f5 := Is_methodUnwrap
  by_cases hk : n = k
  · have e : isKind n k = true := by simp [isKind, hk]
    have E := Lib.hid e
    have e2 : (n == k) = true := e
    clear e hk
    go_enter Tryd.func39, Tryd.ntmps39
    go_wp2_with fail
    refine wp_loop_rounds 1 ?_
    rw [rounds_succ]
    go_wp2_with fail
    refine c1.out.mono ?_
    rintro e w1 ⟨rfl, rfl⟩
    go_wp2_with fail
    go_ret
    exact ⟨ret_bool E.out.symm, rfl⟩
  · have e : isKind n k = false := by simp [isKind, hk]
    have E := Lib.hid e
    have e2 : (n == k) = false := e
    clear e hk
    go_enter Tryd.func39, Tryd.ntmps39
    go_wp2_with fail
    refine wp_loop_rounds 1 ?_
    rw [rounds_succ]
    go_wp2_with fail
    refine c1.out.mono ?_
    rintro e w1 ⟨rfl, rfl⟩
    go_wp2_with fail
    refine c2.out.mono ?_
    rintro e w1 ⟨rfl, rfl⟩
    go_wp2_with fail
    go_ret
    exact ⟨ret_bool E.out.symm, rfl⟩

set_option maxHeartbeats 1600000 in
set_option maxRecDepth 100000 in
theorem errors_is2 (b b2 : Nat) (k i k2 i2 n : Int) (w : World) (hblk : w.heap[b]? = some (.cells #[.int .i64 k, .int .i64 i, .iface 54 (.pointer (some ⟨b2, 0, none⟩))] 58 (0, 0)))
    (hblk2 : w.heap[b2]? = some (.cells #[.int .i64 k2, .int .i64 i2, .nilIface] 58 (0, 0))) :
    Calls Tryd.prog 39 #[.iface 54 (.pointer (some ⟨b, 0, none⟩)), .iface 33 (.int .i64 n), .bool true] w fun e w' => e = .returned (.bool (isKind n k || isKind n k2)) ∧ w = w' := by
  have c1 := Lib.hid (fault_Is b k i n _ w hblk)
  have c2 := Lib.hid (fault_Unwrap b k i _ w hblk)
  have c3 := Lib.hid (fault_Is b2 k2 i2 n _ w hblk2)
  have c4 := Lib.hid (fault_Unwrap b2 k2 i2 _ w hblk2)
  clear hblk hblk2
  have f1 := Is_eq
  have f2 := Is_assertIs
  have f3 := Is_assertUnwrap
  have f4 := Is_methodIs
  have f5 := Is_methodUnwrap
  by_cases hk : n = k
  · have e : (isKind n k || isKind n k2) = true := by simp [isKind, hk]
    have E := Lib.hid e
    have e2 : (n == k) = true := by simp [hk]
    clear e hk
    go_enter Tryd.func39, Tryd.ntmps39
    go_wp2_with fail
    refine wp_loop_rounds 1 ?_
    rw [rounds_succ]
    go_wp2_with fail
    refine c1.out.mono ?_
    rintro e w1 ⟨rfl, rfl⟩
    go_wp2_with fail
    go_ret
    exact ⟨ret_bool E.out.symm, rfl⟩
  · have e2 : (n == k) = false := by simp [hk]
    by_cases hk2 : n = k2
    · have e : (isKind n k || isKind n k2) = true := by simp [isKind, hk2]
      have E := Lib.hid e
      have e3 : (n == k2) = true := by simp [hk2]
      clear e hk hk2
      go_enter Tryd.func39, Tryd.ntmps39
      go_wp2_with fail
      refine wp_loop_rounds 2 ?_
      rw [rounds_succ]
      go_wp2_with fail
      refine c1.out.mono ?_
      rintro e w1 ⟨rfl, rfl⟩
      go_wp2_with fail
      refine c2.out.mono ?_
      rintro e w1 ⟨rfl, rfl⟩
      go_wp2_with fail
      rw [rounds_succ]
      go_wp2_with fail
      refine c3.out.mono ?_
      rintro e w1 ⟨rfl, rfl⟩
      go_wp2_with fail
      go_ret
      exact ⟨ret_bool E.out.symm, rfl⟩
    · have e : (isKind n k || isKind n k2) = false := by simp [isKind, hk, hk2]
      have E := Lib.hid e
      have e3 : (n == k2) = false := by simp [hk2]
      clear e hk hk2
      go_enter Tryd.func39, Tryd.ntmps39
      go_wp2_with fail
      refine wp_loop_rounds 2 ?_
      rw [rounds_succ]
      go_wp2_with fail
      refine c1.out.mono ?_
      rintro e w1 ⟨rfl, rfl⟩
      go_wp2_with fail
      refine c2.out.mono ?_
      rintro e w1 ⟨rfl, rfl⟩
      go_wp2_with fail
      rw [rounds_succ]
      go_wp2_with fail
      refine c3.out.mono ?_
      rintro e w1 ⟨rfl, rfl⟩
      go_wp2_with fail
      refine c4.out.mono ?_
      rintro e w1 ⟨rfl, rfl⟩
      go_wp2_with fail
      go_ret
      exact ⟨ret_bool E.out.symm, rfl⟩

set_option maxHeartbeats 1600000 in
set_option maxRecDepth 100000 in
theorem errors_Is (p : Addr) (n : Int) (r : Bool) (w : World)
    (c : Calls Tryd.prog 39 #[.iface 54 (.pointer (some p)), .iface 33 (.int .i64 n), .bool true] w fun e w' => e = .returned (.bool r) ∧ w = w') :
    Calls Tryd.prog 24 #[.iface 54 (.pointer (some p)), .iface 33 (.int .i64 n)] w fun e w' => e = .returned (.bool r) ∧ w = w' := by
  have C := Lib.hid c
  clear c
  have f1 := Is_typeOf
  have f2 := Is_methodComparable
  have h10 := @run_callFunc_extern Tryd.prog 38 _ ReflectliteType.typeOf Tryd.func38 (by kernel_rfl) (by kernel_rfl) (by kernel_rfl) (by kernel_rfl)
  have h11 : ∀ w : World, (callFunc 105 #[.agg #[.pointer (some ⟨5, 33, none⟩)]]).run Tryd.prog w = .ok (.value (.bool true)) w := fun w => by kernel_rfl
  go_enter Tryd.func24, Tryd.ntmps24
  go_wp2_with fail
  refine C.out.mono ?_
  rintro e w1 ⟨rfl, rfl⟩
  go_wp2_with fail
  go_ret
  exact ⟨rfl, rfl⟩

set_option maxHeartbeats 800000 in
theorem fault_Has (v : Value) (k i n : Int) (w : World) (hv : IsFault w v k i) :
    Calls Tryd.prog 10 #[v, .int .i64 n] w fun e w' => e = .returned (.bool (isKind n k)) ∧ w = w' := by
  obtain ⟨b, rfl, hblk⟩ := hv
  have C := Lib.hid (errors_Is ⟨b, 0, none⟩ n _ w (errors_is b k i n w hblk))
  clear hblk
  go_enter Tryd.func10, Tryd.ntmps10
  go_wp2_with fail
  refine C.out.mono ?_
  rintro e w1 ⟨rfl, rfl⟩
  go_wp2_with fail
  go_ret
  exact ⟨rfl, rfl⟩
end Go.Proofs.YtipenfeplampeaaDoor

/- Has of an error that came from another. -/
namespace Go.Proofs.YtipenfeplampeaaDoor
open Go.RowKit
set_option maxHeartbeats 800000 in
theorem fault_Has2 (v u : Value) (k i k2 i2 n : Int) (w : World) (hv : FaultIs w v k i u) (hu : IsFault w u k2 i2) :
    Calls Tryd.prog 10 #[v, .int .i64 n] w fun e w' => e = .returned (.bool (isKind n k || isKind n k2)) ∧ w = w' := by
  obtain ⟨b, rfl, hblk⟩ := hv
  obtain ⟨b2, rfl, hblk2⟩ := hu
  have C := Lib.hid (errors_Is ⟨b, 0, none⟩ n _ w (errors_is2 b b2 k i k2 i2 n w hblk hblk2))
  clear hblk hblk2
  go_enter Tryd.func10, Tryd.ntmps10
  go_wp2_with fail
  refine C.out.mono ?_
  rintro e w1 ⟨rfl, rfl⟩
  go_wp2_with fail
  go_ret
  exact ⟨rfl, rfl⟩
end Go.Proofs.YtipenfeplampeaaDoor
