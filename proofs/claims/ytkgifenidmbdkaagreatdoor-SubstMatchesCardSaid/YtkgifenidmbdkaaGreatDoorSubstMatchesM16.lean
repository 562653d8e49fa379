/- subst.Match: the walk. -/
import Derived.Test.YtkgifenidmbdkaaGreatDoorSubstMatchesM15
import Derived.Test.YtkgifenidmbdkaaGreatDoorSubstMatchesM5
import Derived.Laws.BytesArg

namespace Go.Proofs.YtkgifenidmbdkaaGreatDoor
open Go.RowKit

theorem pcF_text (p : ByteArray) : ∀ f k, k ≤ p.size → ∀ q ∈ (pcF p f k).1, q.text.size ≤ p.size := by
  intro f
  induction f with
  | zero => intro k _ q hq; simp [pcF] at hq
  | succ f ih =>
    intro k hk q hq
    rw [pcF] at hq
    by_cases hlt : k < p.size
    · rw [if_pos hlt] at hq
      have hes := extract_tail_size p k hk
      rcases idx_pair (p.extract k p.size).data.toList with hi | ⟨n, hi, hn⟩
      · rw [hi, if_pos (by decide)] at hq
        simp at hq
        subst hq
        show (p.extract k p.size).size ≤ _
        omega
      · rw [show (p.extract k p.size).data.toList.length = (p.extract k p.size).size from rfl, hes] at hn
        rw [hi, if_neg (by omega), Int.toNat_natCast, pre_int] at hq
        have hpre : ∀ q ∈ preP p k n, q.text.size ≤ p.size := by
          intro q hq
          unfold preP at hq
          split at hq
          · simp at hq
            subst hq
            show (p.extract k (k + n)).size ≤ _
            rw [extract_size p k (k + n) (by omega) (by omega)]
            omega
          · cases hq
        by_cases hc : cutH 41 (p.extract (k + n + 2) p.size) = true
        · rw [if_pos hc] at hq
          have hr := cut_room hc
          have he := extract_tail_size p (k + n + 2) (by omega)
          rw [he] at hr
          rcases List.mem_append.1 hq with h | h
          · exact hpre q h
          · rcases List.mem_cons.1 h with rfl | h
            · show (cutN 41 _).size ≤ _
              omega
            · exact ih _ (by omega) q h
        · rw [if_neg hc] at hq
          exact hpre q hq
    · rw [if_neg hlt] at hq; cases hq
set_option maxHeartbeats 6400000 in
set_option maxRecDepth 100000 in
theorem sub_Match (p s : ByteArray) (av : Option Addr) (vcap : Nat) (vars : List SVar) (fold : Bool) (w : World) (hU : Utf8Laid w) (hL : ClassLaid w) (hM : MaxAt w) (hv : VarsSl w av vars) (hp : p.size ≤ 16777216) (hs : s.size ≤ 16777216) (hvl : vars.length ≤ 16777216) (hvs : ∀ v ∈ vars, v.2.length ≤ 16777216 ∧ ∀ s ∈ v.2, s.size ≤ 16777216) :
    Calls Tryz.prog 15 #[.string p, .slice av vars.length vcap, .string s, .bool fold] w fun e w' => e = .returned (.bool (subM p vars s fold)) ∧ Below w.heap.size w w' := by
  have HVS := Lib.hid hvs
  clear hvs
  go_enter Tryz.func15, Tryz.ntmps15
  go_wp2_with ((with_reducible refine wpList_bytes_sl rfl 9 106 5 _ rfl s rfl Tryz.underlying9 Tryz.underlying106 Tryz.underlying5 (by omega) ?_); intro v1 w1 hv1 hb1)
  refine (utf_Chars v1 s _ (hU.below hb1) hs hv1).mono ?_
  rintro e w2 ⟨hb2, h⟩
  have hb12 := Bt hb1 hb2
  have hU2 := hU.below hb12
  have hL2 := hL.below hb12
  have hM2 := hM.below hb12
  have hv2 := hv.below hb12
  rcases h with ⟨hn, v3, rfl, hownc⟩ | ⟨i, hi, v3, rfl, hv3⟩
  · obtain ⟨a, c, rfl, hc1, hc2, hsl⟩ := chars_sl hownc rfl
    clear hv1 hb1 hb2 hU hL hM hv hownc
    go_wp2_with fail
    refine (sub_Check p av vcap vars _ hU2 hL2 hM2 hv2 hp hvl).mono ?_
    rintro e w3 ⟨hb3, h⟩
    have hb13 := Bt hb12 hb3
    rcases h with ⟨hok, _, rfl⟩ | ⟨hok, _, v4, rfl, hv4⟩
    · have hM3 := hM2.below hb3
      have hsl3 := hsl.below hb3
      have hU3 := hU2.below hb3
      have hL3 := hL2.below hb3
      have hvv3 := hv2.below hb3
      clear hb12 hb3 hM2 hsl hU2 hL2 hv2
      go_wp2_with fail
      refine (sub_pieces p _ hM3 hp).mono ?_
      rintro e w4 ⟨v4, rfl, hown, hb4⟩
      obtain ⟨a4, n4, c4, rfl⟩ := hown.shape3
      obtain ⟨hn4, hc4, hcm, hpl⟩ := hown.sl
      subst hn4
      have hb14 := Bt hb13 hb4
      have hsl4 := hsl3.below hb4
      have hU4 := hU3.below hb4
      have hL4 := hL3.below hb4
      have hv4 := hvv3.below hb4
      have hplen := pcs_len p (p.size + 1) 0 (Nat.zero_le _)
      rw [show (pcF p (p.size + 1) 0).1 = (pcs p).1 from rfl] at hplen
      have htx := pcF_text p (p.size + 1) 0 (Nat.zero_le _)
      rw [show (pcF p (p.size + 1) 0).1 = (pcs p).1 from rfl] at htx
      have hlen := chrs_len s
      have hcs : ∀ c ∈ (chrs s).1, c ≤ 1114111 := chrs_le
      have hplain := fun q h1 h2 => subM_plain (fold := fold) (q := q) hn hok h1 h2
      have hrun := subM_run (fold := fold) hn hok
      have HPL := Lib.hid hplain
      have HRUN := Lib.hid hrun
      unfold maxLen at hcm hc2
      clear hplain hrun hb13 hsl3 hU3 hL3 hvv3 hown hM3 hb4 hn
      generalize (chrs s).1 = cs at *
      generalize (pcs p).1 = qs at *
      have HTX := Lib.hid htx
      have HCS := Lib.hid hcs
      clear htx hcs hok
      by_cases hone : ∃ q, qs = [q] ∧ q.isVar = false
      · obtain ⟨q, rfl, hqv⟩ := hone
        have HR := Lib.hid (HPL.out q rfl hqv)
        obtain ⟨b, ha, hbw, d0, d1, d2⟩ := hpl 0 q rfl
        subst ha
        rw [hqv] at d1
        simp only [Nat.zero_mul, Nat.zero_add] at d1
        clear hqv HPL HRUN d0 d2 hpl hv4 hsl4 hL4 HTX HCS
        go_wp2_with fail
        refine (glob_Match p s fold _ hU4 hp hs).mono ?_
        rintro e w5 ⟨rfl, hb5⟩
        have hb15 := Bt hb14 hb5
        go_wp2_with fail
        go_ret
        exact ⟨ret_bool HR.out.symm, hb15⟩
      · clear HPL
        go_upto_region 5 with (fail)
        go_cut [45] (fun v wx => v = .bool false ∧ w4 = wx)
        case first =>
          clear HRUN HTX HCS hv4 hsl4 hL4 hU4
          by_cases hl1 : qs.length = 1
          · have e1 : ((qs.length : Int) == 1) = true := by rw [beq_iff_eq]; omega
            have hI0 : (0 : Int) < (qs.length : Int) := by omega
            obtain ⟨q, hq⟩ := List.length_eq_one_iff.1 hl1
            have hqv : q.isVar = true := by
              cases hc : q.isVar
              · exact absurd ⟨q, hq, hc⟩ hone
              · rfl
            obtain ⟨b, ha, hbw, _, d1, _⟩ := hpl 0 q (by rw [hq]; rfl)
            have HA := Lib.hid ha
            rw [hqv] at d1
            simp only [Nat.zero_mul, Nat.zero_add] at d1
            clear hq hl1 hone hpl hplen hqv
            subst ha
            go_wp2_with fail
            go_meet
            exact ⟨rfl, rfl⟩
          · have e1 : ((qs.length : Int) == 1) = false := by rw [beq_eq_false_iff_ne]; omega
            clear hone hpl hplen hl1
            go_wp2_with fail
            go_meet
            exact ⟨rfl, rfl⟩
        case rest =>
          obtain ⟨rfl, rfl⟩ := hcut
          have hst5 : Below w4.heap.size w4 (w4.alloc (.cells #[.slice a cs.length c, .slice av vars.length vcap, .bool fold] 110)) := (Below.refl _ _).alloc (Nat.le_refl _) _
          have hq5 := heap_alloc_new w4 (.cells #[.slice a cs.length c, .slice av vars.length vcap, .bool fold] 110)
          have hmk := make_bools cs.length (by omega)
          have hfz0 := (World.rowIs_made (w4.alloc (.cells #[.slice a cs.length c, .slice av vars.length vcap, .bool fold] 110)) (.bool false) (cs.length + 1) 4).frozen 0
          have hc0 := (World.rowIs_made (w4.alloc (.cells #[.slice a cs.length c, .slice av vars.length vcap, .bool fold] 110)) (.bool false) (cs.length + 1) 4).cell (i := 0) (by omega)
          have hrow0 := row_start (w4.alloc (.cells #[.slice a cs.length c, .slice av vars.length vcap, .bool fold] 110)) cs.length
          have hst6 : Below (w4.alloc (.cells #[.slice a cs.length c, .slice av vars.length vcap, .bool fold] 110)).heap.size (w4.alloc (.cells #[.slice a cs.length c, .slice av vars.length vcap, .bool fold] 110)) ((w4.alloc (.cells #[.slice a cs.length c, .slice av vars.length vcap, .bool fold] 110)).alloc (.cells ((madeCells #[.bool false] (cs.length + 1)).setIfInBounds 0 (.bool true)) 4)) := (Below.refl _ _).alloc (Nat.le_refl _) _
          have hb06 := Bt hst5 hst6
          have m0 := (hst6.cell (p := ⟨w4.heap.size, 0, none⟩) (by simp)).trans (cell_of_row _ _ 0 _ _ _ hq5)
          have m1 := (hst6.cell (p := ⟨w4.heap.size, 1, none⟩) (by simp)).trans (cell_of_row _ _ 1 _ _ _ hq5)
          have m2 := (hst6.cell (p := ⟨w4.heap.size, 2, none⟩) (by simp)).trans (cell_of_row _ _ 2 _ _ _ hq5)
          have hmat : MatAt ((w4.alloc (.cells #[.slice a cs.length c, .slice av vars.length vcap, .bool fold] 110)).alloc (.cells ((madeCells #[.bool false] (cs.length + 1)).setIfInBounds 0 (.bool true)) 4)) w4.heap.size a cs.length c cs (.slice av vars.length vcap) fold := ⟨by simp; omega, m0, m1, m2, rfl, hsl4.below hb06⟩
          have hU6 := hU4.below hb06
          have hL6 := hL4.below hb06
          have hv6 := hv4.below hb06
          have hp6 := hpl.below hb06
          have hb16 := Bt hb14 hb06
          rw [World.size_alloc] at hrow0 hfz0 hc0
          have HMAT := Lib.hid hmat
          clear hst5 hq5 hst6 hb06 m0 m1 m2 hmat hU4 hL4 hv4 hpl hb14 hsl4
          go_wp2_with fail
          generalize (w4.alloc (.cells #[.slice a cs.length c, .slice av vars.length vcap, .bool fold] 110)).alloc (.cells ((madeCells #[.bool false] (cs.length + 1)).setIfInBounds 0 (.bool true)) 4) = w6 at *
          generalize w4.heap.size = n5 at *
          clear hmk hfz0 hc0
          go_loopw [14, 63] (fun v x wr => ∃ (i gn : Nat) (F : Nat → Bool), i ≤ qs.length ∧ x = .int .i64 i ∧ v = .slice (some ⟨gn, 0, none⟩) (cs.length + 1) (cs.length + 1) ∧ wr.rowIs gn 4 (cs.length + 1) (boolsF F) ∧ runR fold cs vars (qs.drop i) F = runR fold cs vars qs (fun i => decide (i = 0)) ∧ Below w6.heap.size w6 wr) (fun _ x _ => qs.length - (intOf x).toNat)
          case atStart => exact ⟨0, n5 + 1, startF, Nat.zero_le _, rfl, rfl, hrow0, by rw [List.drop_zero]; rfl, Below.refl _ _⟩
          case round =>
            obtain ⟨i, gn, F, hil, rfl, rfl, hr, hrn, hbr⟩ := hrel
            clear hrow0
            by_cases hlt : i < qs.length
            · have hiI : (i : Int) < (qs.length : Int) := by omega
              obtain ⟨q, hq⟩ : ∃ q, qs[i]? = some q := ⟨_, List.getElem?_eq_getElem hlt⟩
              obtain ⟨b, ha, hbw, d0, d1, d2⟩ := (hp6.below hbr) i q hq
              have hdr : qs.drop i = q :: qs.drop (i + 1) := by
                obtain ⟨hi, rfl⟩ := List.getElem?_eq_some_iff.1 hq
                exact List.drop_eq_getElem_cons hi
              rw [hdr, runR] at hrn
              have hqt := HTX.out q (List.mem_of_getElem? hq)
              have hal : Below wr.heap.size wr (wr.alloc (.cells #[.string q.text, .bool q.isVar, .int .i64 (q.place : Int)] 94)) := (Below.refl _ _).alloc (Nat.le_refl _) _
              have hb7 := Bt hbr hal
              have hr7 := row_below hr hal
              have HST := Lib.hid (fun W h1 h2 h3 h4 h5 => sub_step n5 gn (cs.length + 1) cs.length c vcap a av vars cs q F fold W h1 h2 h3 h4 (by omega) hc1 h5 HCS.out (by omega) hvl HVS.out)
              have HRN := Lib.hid hrn
              have hU7 := hU6.below hb7
              have hL7 := hL6.below hb7
              have hv7 := hv6.below hb7
              have hm7 := HMAT.out.below hb7
              have HM7 := Lib.hid hm7
              subst ha
              clear hq hdr hrn hm7 hal hr hbr hp6
              obtain ⟨tx, iv, pl⟩ := q
              simp only at d0 d1 d2
              go_wp2_with fail
              refine (HST.out _ hU7 hL7 HM7.out hv7 hr7).mono ?_
              rintro e w8 ⟨gn8, rfl, hr8, hgn8, hb8⟩
              have hb68 := Bt hb7 hb8
              clear HST HM7 hU7 hL7 hv7 hr7 hb7 hb8
              go_wp2_with fail
              go_roundw
              case rel => exact ⟨i + 1, gn8, _, by omega, by go_num, rfl, hr8, HRN.out, hb68⟩
              case measure => simp [intOf]; omega
            · obtain rfl : i = qs.length := by omega
              rw [List.drop_length, runR] at hrn
              have cl := hr.cell (i := cs.length) (by omega)
              have hgl := hr.lt
              have e9 : boolsF F cs.length = .bool (F cs.length) := rfl
              rw [e9] at cl
              have HR := Lib.hid (show F cs.length = subM p vars s fold by rw [HRUN.out, hrn])
              have hb0 := Bt hb16 hbr
              clear hrn e9 hr hbr HRUN
              go_wp2_with fail
              go_ret
              exact ⟨ret_bool HR.out, hb0⟩
    · obtain ⟨q, rfl⟩ := hv4.ne_nil
      have HV := Lib.hid (subM_no (s := s) (fold := fold) hok)
      clear hok hn
      go_wp2_with fail
      go_ret
      exact ⟨ret_bool HV.out.symm, hb13⟩
  · obtain ⟨q, rfl⟩ := hv3.ne_nil
    have HV := Lib.hid (subM_bad (p := p) (vars := vars) (fold := fold) hi)
    clear hi
    go_wp2_with fail
    go_ret
    exact ⟨ret_bool HV.out.symm, hb12⟩
end Go.Proofs.YtkgifenidmbdkaaGreatDoor

/- The law's own check that subst speaks. -/
namespace Go.Proofs.YtkgifenidmbdkaaGreatDoor
open Go.RowKit

def spV : List SVar := [(⟨#[102, 111, 111, 100]⟩, [⟨#[112, 105, 122, 122, 97]⟩, ⟨#[116, 97, 99, 111, 42]⟩])]
def spP : ByteArray := ⟨#[47, 36, 40, 108, 97, 110, 103, 41, 47, 36, 40, 102, 111, 111, 100, 41, 47, 42]⟩
theorem sp19_a : subM spP spV ⟨#[47, 101, 110, 47, 116, 97, 99, 111, 115, 47, 49]⟩ false = true := by decide +kernel
theorem sp19_b : subM spP spV ⟨#[47, 69, 78, 47, 112, 105, 122, 122, 97, 47]⟩ false = false := by decide +kernel
theorem sp19_c : subM spP spV ⟨#[47, 69, 78, 47, 112, 105, 122, 122, 97, 47]⟩ true = true := by decide +kernel
theorem strs_two {w : World} {b : Nat} {t : TypeId} {x y : ByteArray} (h : w.heap[b]? = some (.cells #[.string x, .string y] t (0, 0))) : StrsV w (.slice (some ⟨b, 0, none⟩) 2 2) [x, y] :=
  ⟨_, _, rfl, Nat.le_refl _, fun i s hs => by
    match i, hs with
    | 0, hs => cases hs; exact ⟨b, 0, rfl, lt_of_block h, cell_of_row _ _ 0 _ _ _ h⟩
    | 1, hs => cases hs; exact ⟨b, 0, rfl, lt_of_block h, cell_of_row _ _ 1 _ _ _ h⟩⟩
theorem strs_single {w : World} {b : Nat} {t : TypeId} {x : ByteArray} (h : w.heap[b]? = some (.cells #[.string x] t (0, 0))) : StrsV w (.slice (some ⟨b, 0, none⟩) 1 1) [x] :=
  ⟨_, _, rfl, Nat.le_refl _, fun i s hs => by
    match i, hs with
    | 0, hs => cases hs; exact ⟨b, 0, rfl, lt_of_block h, cell_of_row _ _ 0 _ _ _ h⟩⟩
set_option maxHeartbeats 1600000 in
set_option maxRecDepth 100000 in
theorem speaks19 (w : World) (hU : Utf8Laid w) (hL : ClassLaid w) (hM : MaxAt w) : Calls Tryz.prog 6 #[] w fun e w' => e = .returned (.bool true) ∧ Below w.heap.size w w' := by
  have hst1 : Below w.heap.size w (w.alloc (.cells #[.string ⟨#[112, 105, 122, 122, 97]⟩, .string ⟨#[116, 97, 99, 111, 42]⟩] 9)) := (Below.refl _ _).alloc (Nat.le_refl _) _
  have hq1 := heap_alloc_new w (.cells #[.string ⟨#[112, 105, 122, 122, 97]⟩, .string ⟨#[116, 97, 99, 111, 42]⟩] 9)
  have hB2 : Below (w.alloc (.cells #[.string ⟨#[112, 105, 122, 122, 97]⟩, .string ⟨#[116, 97, 99, 111, 42]⟩] 9)).heap.size (w.alloc (.cells #[.string ⟨#[112, 105, 122, 122, 97]⟩, .string ⟨#[116, 97, 99, 111, 42]⟩] 9)) ((w.alloc (.cells #[.string ⟨#[112, 105, 122, 122, 97]⟩, .string ⟨#[116, 97, 99, 111, 42]⟩] 9)).alloc (.cells #[.string ⟨#[102, 111, 111, 100]⟩, .slice (some ⟨w.heap.size, 0, none⟩) 2 2] 82)) := (Below.refl _ _).alloc (Nat.le_refl _) _
  have hq2 := heap_alloc_new (w.alloc (.cells #[.string ⟨#[112, 105, 122, 122, 97]⟩, .string ⟨#[116, 97, 99, 111, 42]⟩] 9)) (.cells #[.string ⟨#[102, 111, 111, 100]⟩, .slice (some ⟨w.heap.size, 0, none⟩) 2 2] 82)
  rw [World.size_alloc] at hq2
  have hb := Bt hst1 hB2
  have hsv := (strs_two hq1).below hB2
  have hvs : VarsSl ((w.alloc (.cells #[.string ⟨#[112, 105, 122, 122, 97]⟩, .string ⟨#[116, 97, 99, 111, 42]⟩] 9)).alloc (.cells #[.string ⟨#[102, 111, 111, 100]⟩, .slice (some ⟨w.heap.size, 0, none⟩) 2 2] 82)) (some ⟨w.heap.size + 1, 0, none⟩) spV :=
    ⟨[(⟨#[102, 111, 111, 100]⟩, .slice (some ⟨w.heap.size, 0, none⟩) 2 2)], fun i x hx => by
      match i, hx with
      | 0, hx => cases hx; exact ⟨w.heap.size + 1, 0, rfl, lt_of_block hq2, cell_of_row _ _ 0 _ _ _ hq2, cell_of_row _ _ 1 _ _ _ hq2⟩, rfl, fun i v hv => by
      match i, hv with
      | 0, hv => cases hv; exact ⟨_, rfl, hsv⟩⟩
  have hU2 := hU.below hb
  have hL2 := hL.below hb
  have hM2 := hM.below hb
  have hsz : ∀ v ∈ spV, v.2.length ≤ 16777216 ∧ ∀ s ∈ v.2, s.size ≤ 16777216 := by decide
  have cM : ∀ (s : ByteArray) (f : Bool) (W : World), s.size ≤ 16777216 → Below ((w.alloc (.cells #[.string ⟨#[112, 105, 122, 122, 97]⟩, .string ⟨#[116, 97, 99, 111, 42]⟩] 9)).alloc (.cells #[.string ⟨#[102, 111, 111, 100]⟩, .slice (some ⟨w.heap.size, 0, none⟩) 2 2] 82)).heap.size ((w.alloc (.cells #[.string ⟨#[112, 105, 122, 122, 97]⟩, .string ⟨#[116, 97, 99, 111, 42]⟩] 9)).alloc (.cells #[.string ⟨#[102, 111, 111, 100]⟩, .slice (some ⟨w.heap.size, 0, none⟩) 2 2] 82)) W →
      Calls Tryz.prog 15 #[.string ⟨#[47, 36, 40, 108, 97, 110, 103, 41, 47, 36, 40, 102, 111, 111, 100, 41, 47, 42]⟩, .slice (some ⟨w.heap.size + 1, 0, none⟩) 1 1, .string s, .bool f] W fun e w' => e = .returned (.bool (subM spP spV s f)) ∧ Below W.heap.size W w' := fun s f W hs hW =>
    sub_Match spP s (some ⟨w.heap.size + 1, 0, none⟩) 1 spV f W (hU2.below hW) (hL2.below hW) (hM2.below hW) (hvs.below hW) (by decide) hs (by decide) hsz
  have CA := Lib.hid (fun W h => sp19_a ▸ cM ⟨#[47, 101, 110, 47, 116, 97, 99, 111, 115, 47, 49]⟩ false W (by decide) h)
  have CB := Lib.hid (fun W h => sp19_b ▸ cM ⟨#[47, 69, 78, 47, 112, 105, 122, 122, 97, 47]⟩ false W (by decide) h)
  have CC := Lib.hid (fun W h => sp19_c ▸ cM ⟨#[47, 69, 78, 47, 112, 105, 122, 122, 97, 47]⟩ true W (by decide) h)
  clear cM hvs hsv hq1 hq2 hsz hU2 hL2 hM2 hst1 hB2
  go_enter Tryz.func6, Tryz.ntmps6
  go_wp2_with fail
  refine (CA.out _ (Below.refl _ _)).mono ?_
  rintro e w3 ⟨rfl, hb3⟩
  go_wp2_with fail
  refine (CB.out _ hb3).mono ?_
  rintro e w4 ⟨rfl, hb4⟩
  have hb34 := Bt hb3 hb4
  go_wp2_with fail
  refine (CC.out _ hb34).mono ?_
  rintro e w5 ⟨rfl, hb5⟩
  have hb35 := Bt hb34 hb5
  have hb05 := Bt hb hb35
  go_wp2_with fail
  go_ret
  exact ⟨rfl, hb05⟩
end Go.Proofs.YtkgifenidmbdkaaGreatDoor

/- The law's own look at variables: are they more than are looked at? -/
namespace Go.Proofs.YtkgifenidmbdkaaGreatDoor
open Go.RowKit

def SmallV (v : SVar) : Prop := v.2.length ≤ 4 ∧ v.1.size ≤ 100 ∧ ∀ s ∈ v.2, s.size ≤ 20
theorem take_next {α : Type} {P : α → Prop} {l : List α} {i : Nat} {x : α} (h : l[i]? = some x) (hp : P x) (hall : ∀ y ∈ l.take i, P y) : ∀ y ∈ l.take (i + 1), P y := by
  intro y hy
  rw [List.take_add_one, h] at hy
  rcases List.mem_append.1 hy with h2 | h2
  · exact hall y h2
  · obtain rfl : y = x := by simpa using h2
    exact hp
def GreatPost (vars : List SVar) (w : World) (e : Ending) (w' : World) : Prop := (e = .returned (.bool true) ∨ (e = .returned (.bool false) ∧ vars.length ≤ 5 ∧ ∀ v ∈ vars, SmallV v)) ∧ Below w.heap.size w w'
set_option maxHeartbeats 6400000 in
set_option maxRecDepth 100000 in
theorem sub_great (av : Option Addr) (vcap : Nat) (vars : List SVar) (w : World) (hv : VarsSl w av vars) (hvl : vars.length ≤ maxLen) (hvs : ∀ v ∈ vars, v.1.size ≤ maxLen ∧ v.2.length ≤ maxLen) :
    Calls Tryz.prog 7 #[.slice av vars.length vcap] w (GreatPost vars w) := by
  unfold maxLen at hvl hvs
  have HVS := Lib.hid hvs
  have HV := Lib.hid hv
  clear hvs hv
  go_enter Tryz.func7, Tryz.ntmps7
  by_cases hlen : 5 < vars.length
  · have e1 : (5 : Int) < (vars.length : Int) := by omega
    clear hlen
    go_wp2_with fail
    go_ret
    exact ⟨.inl rfl, Below.refl _ _⟩
  have e1 : ¬ (5 : Int) < (vars.length : Int) := by omega
  go_wp2_with fail
  clear e1
  go_loopw [12] (fun x wr => ∃ i : Nat, i ≤ vars.length ∧ x = .int .i64 i ∧ (∀ v ∈ vars.take i, SmallV v) ∧ Below w.heap.size w wr) (fun x _ => vars.length - (intOf x).toNat)
  case atStart => exact ⟨0, Nat.zero_le _, rfl, fun v hv => by simp at hv, Below.refl _ _⟩
  case round =>
    obtain ⟨i, hil, rfl, hall, hbr⟩ := hrel
    have HALL := Lib.hid hall
    clear hall
    by_cases hlt : i < vars.length
    · have hiI : (i : Int) < (vars.length : Int) := by omega
      obtain ⟨⟨nm, vals⟩, hx⟩ : ∃ v, vars[i]? = some v := ⟨_, List.getElem?_eq_getElem hlt⟩
      obtain ⟨us, h1, h2, h3⟩ := HV.out.below hbr
      obtain ⟨u, hu, hsv⟩ := h3 i _ hx
      obtain ⟨b, off, ha, hbw, c0, c1⟩ := h1 i _ hu
      have hsm := HVS.out _ (List.mem_of_getElem? hx)
      obtain ⟨pa, pcap, rfl, hpc, hpl⟩ := hsv
      simp only at c0 c1 hsm hpl hpc
      have hal : Below wr.heap.size wr (wr.alloc (.cells #[.string nm, .slice pa vals.length pcap] 82)) := (Below.refl _ _).alloc (Nat.le_refl _) _
      have hb2 := Bt hbr hal
      have q0 := cell_of_row _ _ 0 _ _ _ (heap_alloc_new wr (.cells #[.string nm, .slice pa vals.length pcap] 82))
      have q1 := cell_of_row _ _ 1 _ _ _ (heap_alloc_new wr (.cells #[.string nm, .slice pa vals.length pcap] 82))
      have HNEXT := Lib.hid (fun hp => take_next (P := SmallV) hx hp HALL.out)
      have HPL := Lib.hid (fun (i : Nat) s (hs : vals[i]? = some s) => by
        obtain ⟨b2, off2, e2, hb, hc⟩ := hpl i s hs
        exact (show ∃ b2 off2, pa = some ⟨b2, off2, none⟩ ∧ b2 < (wr.alloc (.cells #[.string nm, .slice pa vals.length pcap] 82)).heap.size ∧ (wr.alloc (.cells #[.string nm, .slice pa vals.length pcap] 82)).cell? ⟨b2, off2 + i, none⟩ = some (.string s) from ⟨b2, off2, e2, Nat.lt_of_lt_of_le hb hal.size, (hal.cell (p := ⟨b2, off2 + i, none⟩) hb).trans hc⟩))
      subst ha
      clear h1 h2 h3 hu hx hpl hal HALL hbr
      by_cases g1 : 4 < vals.length
      · have e2 : (4 : Int) < (vals.length : Int) := by omega
        clear g1 HNEXT HPL
        go_wp2_with fail
        go_ret
        exact ⟨.inl rfl, hb2⟩
      have e2 : ¬ (4 : Int) < (vals.length : Int) := by omega
      by_cases g2 : 100 < nm.size
      · have e3 : (100 : Int) < (nm.size : Int) := by omega
        clear g1 g2 HNEXT HPL
        go_wp2_with fail
        go_ret
        exact ⟨.inl rfl, hb2⟩
      have e3 : ¬ (100 : Int) < (nm.size : Int) := by omega
      go_wp2_with fail
      generalize wr.alloc (.cells #[.string nm, .slice pa vals.length pcap] 82) = w2 at *
      clear c0 c1 q0 q1 e2 e3
      go_loopw [29] (fun x wr => ∃ j : Nat, j ≤ vals.length ∧ x = .int .i64 j ∧ (∀ s ∈ vals.take j, s.size ≤ 20) ∧ w2 = wr) (fun x _ => vals.length - (intOf x).toNat)
      case atStart => exact ⟨0, Nat.zero_le _, rfl, fun v hv => by simp at hv, by trivial⟩
      case round =>
        obtain ⟨j, hjl, rfl, hall, rfl⟩ := hrel
        have HA := Lib.hid hall
        clear hall
        by_cases hjt : j < vals.length
        · have hjI : (j : Int) < (vals.length : Int) := by omega
          obtain ⟨s, hs⟩ : ∃ s, vals[j]? = some s := ⟨_, List.getElem?_eq_getElem hjt⟩
          obtain ⟨b2, off2, rfl, hbw2, hce⟩ := HPL.out j s hs
          have HN2 := Lib.hid (fun hp => take_next (P := fun s : ByteArray => s.size ≤ 20) hs hp HA.out)
          clear hs HA
          by_cases g3 : 20 < s.size
          · have e4 : (20 : Int) < (s.size : Int) := by omega
            clear g3 HN2 HNEXT
            go_wp2_with fail
            go_ret
            exact ⟨.inl rfl, hb2⟩
          · have e4 : ¬ (20 : Int) < (s.size : Int) := by omega
            have HX := Lib.hid (HN2.out (by omega))
            clear g3 HN2
            go_wp2_with fail
            go_roundw
            case rel => exact ⟨j + 1, by omega, by go_num, HX.out, by trivial⟩
            case measure => simp [intOf]; omega
        · obtain rfl : j = vals.length := by omega
          have HX := Lib.hid (HNEXT.out ⟨by show vals.length ≤ 4; omega, by show nm.size ≤ 100; omega, by have := HA.out; rwa [List.take_length] at this⟩)
          clear HNEXT HA HPL
          go_wp2_with fail
          go_roundw
          case rel => exact ⟨i + 1, by omega, by go_num, HX.out, hb2⟩
          case measure => simp [intOf]; omega
    · obtain rfl : i = vars.length := by omega
      go_wp2_with fail
      go_ret
      exact ⟨.inr ⟨rfl, by omega, by have := HALL.out; rwa [List.take_length] at this⟩, hbr⟩
end Go.Proofs.YtkgifenidmbdkaaGreatDoor

/- A call's own bytes, as a string. -/
namespace Go.Proofs.YtkgifenidmbdkaaGreatDoor
open Go.RowKit

theorem BytesSl.conv {w : World} {a : Option Addr} {len cap : Nat} {s : ByteArray} (h : BytesSl w (.slice a len cap) s) : (convert 106 9 (.slice a len cap)).run Tryz.prog w = .ok (.string s) w := by
  rcases h with ⟨h0, a', cap', e⟩ | ⟨b, off, cap', e, h1, h2, h3, h4⟩
  · cases e
    have hs : s = ⟨#[]⟩ := by
      apply ByteArray.ext
      apply Array.eq_empty_of_size_eq_zero
      exact h0
    subst hs
    cases a with
    | none =>
      exact run_convert_bytes_nil w 106 5 Tryz.underlying106 Tryz.underlying5 0 cap 9 Tryz.underlying9
    | some ad =>
      have := run_convert_bytes_back (P := Tryz.prog) w 106 9 5 ad cap [] Tryz.underlying106 Tryz.underlying5 Tryz.underlying9 (fun j hj => by simp at hj)
      exact this
  · cases e
    have := run_convert_bytes_back (P := Tryz.prog) w 106 9 5 ⟨b, off, none⟩ cap s.data.toList Tryz.underlying106 Tryz.underlying5 Tryz.underlying9 (fun j hj => by
      have hj' : j < s.size := hj
      rw [Addr.add_lit, h4 j hj']
      simp [byteAt, List.getD, List.getElem?_eq_getElem hj])
    exact this
theorem OwnB.conv {w : World} {base : Nat} {v : Value} {l : List UInt8} (h : OwnB w base v l) : (convert 106 9 v).run Tryz.prog w = .ok (.string ⟨l.toArray⟩) w := by
  rcases h.shape with ⟨rfl, rfl⟩ | ⟨g, cap, rfl, h1, h2, h3, h4⟩
  · exact BytesSl.conv h.sl
  · exact BytesSl.conv h.sl
end Go.Proofs.YtkgifenidmbdkaaGreatDoor
