/- The walk of SubstPlain. -/
import Derived.Test.YtipenfeplampeaaDoorSubstPlainM16
import Derived.Test.YtipenfeplampeaaDoorSubstPlainM17
import Derived.Test.YtipenfeplampeaaDoorSubstPlainM5
import Derived.Test.YtipenfeplampeaaDoorSubstPlainM6
import Derived.Shelf.Vars
import Derived.HandedShaped
import Derived.ChangeSame
import Derived.ChangeAt
import Derived.Test.YtipenfeplampeaaDoorSubstPlainM8
import Derived.SliceStrings
import Derived.Lib.LaidU8
import Derived.Lib.LaidU8T
import Derived.Deep.Strs
import Derived.OpenShut
import Derived.LaidLaws
import Derived.Stop.Joined
import Derived.Test.YtipenfeplampeaaDoorSubstPlainM3

namespace Go.Proofs.YtipenfeplampeaaDoor
open Go.RowKit

theorem or_32 : ∀ b : Fin 256, ((decide ((97 : Int) ≤ bits .or .u8 (b.1 : Int) 32)) && decide (bits .or .u8 (b.1 : Int) 32 ≤ 122)) = isLet b.1 := by decide +kernel
theorem any_step {values : List ByteArray} {i : Nat} {v s : ByteArray} {f : Bool} (h : values[i]? = some v) : ((values.take (i + 1)).any fun v => matchB v s f) = (((values.take i).any fun v => matchB v s f) || matchB v s f) := by
  rw [List.take_add_one, h, List.any_append]
  simp
set_option maxHeartbeats 12800000 in
set_option maxRecDepth 100000 in
theorem plain_walk19 (p s : ByteArray) (pa : Option Addr) (cap : Nat) (values : List ByteArray) (fold : Bool) (w : World) (hU : Utf8Laid w) (hL : ClassLaid w) (hM : MaxAt w) (hv : StrsV w (.slice pa values.length cap) values) (hvl : values.length ≤ maxLen) (hpz : p.size ≤ maxLen) (hsz : s.size ≤ maxLen) :
    Calls Tryd.prog 4 #[.string p, .string s, .slice pa values.length cap, .bool fold] w fun e w' => e = .returned (.bool true) ∧ Below w.heap.size w w' := by
  unfold maxLen at hvl hpz hsz
  go_enter Tryd.func4, Tryd.ntmps4
  go_wp2_with fail
  refine (speaks19 _ hU hL hM).mono ?_
  rintro e w1 ⟨rfl, hb1⟩
  by_cases h1 : 200 < p.size
  · have h1I : (200 : Int) < (p.size : Int) := by omega
    clear hv
    go_wp2_with fail
    go_ret
    exact ⟨rfl, hb1⟩
  have h1I : ¬ (200 : Int) < (p.size : Int) := by omega
  by_cases h2 : 60 < s.size
  · have h2I : (60 : Int) < (s.size : Int) := by omega
    clear hv
    go_wp2_with fail
    go_ret
    exact ⟨rfl, hb1⟩
  have h2I : ¬ (60 : Int) < (s.size : Int) := by omega
  by_cases h3 : 8 < values.length
  · have h3I : (8 : Int) < (values.length : Int) := by omega
    clear hv
    go_wp2_with fail
    go_ret
    exact ⟨rfl, hb1⟩
  have h3I : ¬ (8 : Int) < (values.length : Int) := by omega
  have hv1 := hv.below hb1
  have hU1 := hU.below hb1
  have hL1 := hL.below hb1
  have hM1 := hM.below hb1
  clear hv hU hL hM
  go_wp2_with fail
  go_loopw [9, 32] (fun v x wr => ∃ i : Nat, i ≤ values.length ∧ x = .int .i64 i ∧ v = .bool ((values.take i).any fun v => matchB v s fold) ∧ (∀ v ∈ values.take i, v.size ≤ 100) ∧ Below w1.heap.size w1 wr) (fun _ x _ => values.length - (intOf x).toNat)
  case atStart => exact ⟨0, Nat.zero_le _, rfl, by simp, fun v hv => by simp at hv, Below.refl _ _⟩
  case round =>
    obtain ⟨i, hil, rfl, rfl, hall, hbr⟩ := hrel
    by_cases hlt : i < values.length
    · have hiI : (i : Int) < (values.length : Int) := by omega
      obtain ⟨v, hvi⟩ : ∃ v, values[i]? = some v := ⟨_, List.getElem?_eq_getElem hlt⟩
      obtain ⟨pa', cap', e1, _, hcell⟩ := hv1.below hbr
      cases e1
      obtain ⟨b, off, hpa, hbw, hce⟩ := hcell i v hvi
      have hstep := any_step (s := s) (f := fold) hvi
      have htk : values.take (i + 1) = values.take i ++ [v] := by rw [List.take_add_one, hvi]; rfl
      clear hvi hcell hv1
      subst hpa
      by_cases hvz : 100 < v.size
      · have hvI : (100 : Int) < (v.size : Int) := by omega
        have hb0 := Bt hb1 hbr
        clear hall hstep htk hbr
        go_wp2_with fail
        go_ret
        exact ⟨rfl, hb0⟩
      · have hvI : ¬ (100 : Int) < (v.size : Int) := by omega
        have hall2 : ∀ x ∈ values.take (i + 1), x.size ≤ 100 := fun x hx => by
          rw [htk] at hx
          rcases List.mem_append.1 hx with h | h
          · exact hall x h
          · rw [List.mem_singleton] at h; rw [h]; omega
        have HALL := Lib.hid hall2
        have HSTEP := Lib.hid hstep
        have HRM := Lib.hid (fun W => ref_Match v s fold W (by omega) (by omega))
        clear hall hall2 hstep htk
        generalize ((values.take i).any fun v => matchB v s fold) = y at *
        generalize matchB v s fold = z at *
        cases y with
        | true =>
          go_wp2_with fail
          go_roundw
          case rel => exact ⟨i + 1, by omega, by go_num, by rw [HSTEP.out]; rfl, HALL.out, hbr⟩
          case measure => simp [intOf]; omega
        | false =>
          go_wp2_with fail
          refine (HRM.out _).mono ?_
          rintro e w3 ⟨rfl, hb3⟩
          have hbr3 := Bt hbr hb3
          clear hb3 hbr HRM
          go_wp2_with fail
          go_roundw
          case rel => exact ⟨i + 1, by omega, by go_num, by rw [HSTEP.out]; simp, HALL.out, hbr3⟩
          case measure => simp [intOf]; omega
    · obtain rfl : i = values.length := by omega
      rw [List.take_length] at hall ⊢
      have hA : Below wr.heap.size wr (wr.alloc (.cells #[.string ⟨#[42]⟩] 9)) := (Below.refl _ _).alloc (Nat.le_refl _) _
      have hB : Below (wr.alloc (.cells #[.string ⟨#[42]⟩] 9)).heap.size (wr.alloc (.cells #[.string ⟨#[42]⟩] 9)) ((wr.alloc (.cells #[.string ⟨#[42]⟩] 9)).alloc (.cells #[.string ⟨#[42]⟩] 9)) := (Below.refl _ _).alloc (Nat.le_refl _) _
      have hC : Below ((wr.alloc (.cells #[.string ⟨#[42]⟩] 9)).alloc (.cells #[.string ⟨#[42]⟩] 9)).heap.size ((wr.alloc (.cells #[.string ⟨#[42]⟩] 9)).alloc (.cells #[.string ⟨#[42]⟩] 9)) (((wr.alloc (.cells #[.string ⟨#[42]⟩] 9)).alloc (.cells #[.string ⟨#[42]⟩] 9)).alloc (.cells #[.string ⟨#[120]⟩, .slice pa values.length cap, .string ⟨#[120]⟩, .slice (some ⟨wr.heap.size, 0, none⟩) 1 1, .string ⟨#[97, 108, 112, 104, 97]⟩, .slice (some ⟨wr.heap.size + 1, 0, none⟩) 1 1] 24)) := (Below.refl _ _).alloc (Nat.le_refl _) _
      have qa := heap_alloc_new wr (.cells #[.string ⟨#[42]⟩] 9)
      have qb := heap_alloc_new (wr.alloc (.cells #[.string ⟨#[42]⟩] 9)) (.cells #[.string ⟨#[42]⟩] 9)
      have qc := heap_alloc_new ((wr.alloc (.cells #[.string ⟨#[42]⟩] 9)).alloc (.cells #[.string ⟨#[42]⟩] 9)) (.cells #[.string ⟨#[120]⟩, .slice pa values.length cap, .string ⟨#[120]⟩, .slice (some ⟨wr.heap.size, 0, none⟩) 1 1, .string ⟨#[97, 108, 112, 104, 97]⟩, .slice (some ⟨wr.heap.size + 1, 0, none⟩) 1 1] 24)
      rw [World.size_alloc] at qb
      rw [World.size_alloc, World.size_alloc] at qc
      have hAC := Bt hA (Bt hB hC)
      have sa := (strs_single qa).below (Bt hB hC)
      have sb := (strs_single qb).below hC
      have hb1r := Bt hb1 hbr
      have hb1c := Bt hb1r hAC
      have s0 := (hv1.below hbr).below hAC
      have hvs : VarsSl (((wr.alloc (.cells #[.string ⟨#[42]⟩] 9)).alloc (.cells #[.string ⟨#[42]⟩] 9)).alloc (.cells #[.string ⟨#[120]⟩, .slice pa values.length cap, .string ⟨#[120]⟩, .slice (some ⟨wr.heap.size, 0, none⟩) 1 1, .string ⟨#[97, 108, 112, 104, 97]⟩, .slice (some ⟨wr.heap.size + 1, 0, none⟩) 1 1] 24)) (some ⟨wr.heap.size + 1 + 1, 0, none⟩) (v3 values) :=
        ⟨[(⟨#[120]⟩, .slice pa values.length cap), (⟨#[120]⟩, .slice (some ⟨wr.heap.size, 0, none⟩) 1 1), (⟨#[97, 108, 112, 104, 97]⟩, .slice (some ⟨wr.heap.size + 1, 0, none⟩) 1 1)], fun i x hx => by
          match i, hx with
          | 0, hx => cases hx; exact ⟨wr.heap.size + 1 + 1, 0, rfl, lt_of_block qc, cell_of_row _ _ 0 _ _ _ qc, cell_of_row _ _ 1 _ _ _ qc⟩
          | 1, hx => cases hx; exact ⟨wr.heap.size + 1 + 1, 0, rfl, lt_of_block qc, cell_of_row _ _ 2 _ _ _ qc, cell_of_row _ _ 3 _ _ _ qc⟩
          | 2, hx => cases hx; exact ⟨wr.heap.size + 1 + 1, 0, rfl, lt_of_block qc, cell_of_row _ _ 4 _ _ _ qc, cell_of_row _ _ 5 _ _ _ qc⟩, rfl, fun i v hv => by
          match i, hv with
          | 0, hv => cases hv; exact ⟨_, rfl, s0⟩
          | 1, hv => cases hv; exact ⟨_, rfl, sa⟩
          | 2, hv => cases hv; exact ⟨_, rfl, sb⟩⟩
      have hsz3 : ∀ v ∈ v3 values, v.2.length ≤ 16777216 ∧ ∀ x ∈ v.2, x.size ≤ 16777216 := by
        intro v hv
        unfold v3 at hv
        simp only [List.mem_cons, List.not_mem_nil, or_false] at hv
        rcases hv with rfl | rfl | rfl
        · exact ⟨by show values.length ≤ _; omega, fun x hx => by have := hall x hx; omega⟩
        · exact ⟨by decide, by decide⟩
        · exact ⟨by decide, by decide⟩
      have cM : ∀ (P : ByteArray) (W : World), P.size ≤ 16777216 → Below (((wr.alloc (.cells #[.string ⟨#[42]⟩] 9)).alloc (.cells #[.string ⟨#[42]⟩] 9)).alloc (.cells #[.string ⟨#[120]⟩, .slice pa values.length cap, .string ⟨#[120]⟩, .slice (some ⟨wr.heap.size, 0, none⟩) 1 1, .string ⟨#[97, 108, 112, 104, 97]⟩, .slice (some ⟨wr.heap.size + 1, 0, none⟩) 1 1] 24)).heap.size (((wr.alloc (.cells #[.string ⟨#[42]⟩] 9)).alloc (.cells #[.string ⟨#[42]⟩] 9)).alloc (.cells #[.string ⟨#[120]⟩, .slice pa values.length cap, .string ⟨#[120]⟩, .slice (some ⟨wr.heap.size, 0, none⟩) 1 1, .string ⟨#[97, 108, 112, 104, 97]⟩, .slice (some ⟨wr.heap.size + 1, 0, none⟩) 1 1] 24)) W →
          Calls Tryd.prog 14 #[.string P, .slice (some ⟨wr.heap.size + 2, 0, none⟩) 3 3, .string s, .bool fold] W fun e w' => e = .returned (.bool (subM P (v3 values) s fold)) ∧ Below W.heap.size W w' := fun P W hP hW =>
        have hcw := Bt hAC hW
        sub_Match P s (some ⟨wr.heap.size + 1 + 1, 0, none⟩) 3 (v3 values) fold W ((hU1.below hbr).below hcw) ((hL1.below hbr).below hcw) ((hM1.below hbr).below hcw) (hvs.below hW) hP (by omega) (show 3 ≤ 16777216 by decide) hsz3
      have CX := Lib.hid (fun W h => law_x values s fold ▸ cM ⟨#[36, 40, 120, 41]⟩ W (by decide) h)
      have CL := Lib.hid (fun W h => law_alpha values s fold ▸ cM ⟨#[36, 40, 97, 108, 112, 104, 97, 41]⟩ W (by decide) h)
      have CP := Lib.hid (fun W h => cM p W (by omega) h)
      have CR := Lib.hid (fun W => ref_Match p s fold W (by omega) (by omega))
      have HFR := Lib.hid (fun h => law_free (p := p) (v3 values) s fold h)
      clear cM hsz3 hvs s0 sb sa qa qb qc hA hB hC hv1 hU1 hL1 hM1 hall hb1r hAC hbr
      generalize (values.any fun v => matchB v s fold) = y at *
      generalize subM p (v3 values) s fold = mp at *
      generalize matchB p s fold = mr at *
      go_wp2_with fail
      refine (CX.out _ (Below.refl _ _)).mono ?_
      rintro e w4 ⟨rfl, hb4⟩
      generalize (((wr.alloc (.cells #[.string ⟨#[42]⟩] 9)).alloc (.cells #[.string ⟨#[42]⟩] 9)).alloc (.cells #[.string ⟨#[120]⟩, .slice pa values.length cap, .string ⟨#[120]⟩, .slice (some ⟨wr.heap.size, 0, none⟩) 1 1, .string ⟨#[97, 108, 112, 104, 97]⟩, .slice (some ⟨wr.heap.size + 1, 0, none⟩) 1 1] 24)) = wc at *
      go_upto_region 16 with (fail)
      go_cut [13] (fun v wx => v = .bool (oneL s) ∧ w4 = wx)
      case first =>
        by_cases hs1 : s.size = 1
        · have e1 : ((s.size : Int) == 1) = true := by rw [beq_iff_eq]; omega
          have h0 : (0 : Int) < (s.size : Int) := by omega
          have h0n : 0 < s.size := by omega
          have hix := byteAt_idx (s := s) (i := 0) h0n
          have ho' : oneL s = isLet (byteAt s 0).toNat := by unfold oneL; rw [decide_eq_true hs1, Bool.true_and]
          have hor := or_32 ⟨(byteAt s 0).toNat, (byteAt s 0).toNat_lt⟩
          simp only at hor
          rw [← hor] at ho'
          have HO := Lib.hid ho'
          clear ho' hor hs1
          generalize byteAt s 0 = b at *
          by_cases g1 : (97 : Int) ≤ bits .or .u8 (b.toNat : Int) 32
          · by_cases g2 : bits .or .u8 (b.toNat : Int) 32 ≤ 122
            · have ho := Lib.hid (show oneL s = true by rw [HO.out, decide_eq_true g1, decide_eq_true g2]; rfl)
              clear HO
              go_wp2_with fail
              go_meet
              exact ⟨by rw [ho.out], rfl⟩
            · have ho := Lib.hid (show oneL s = false by rw [HO.out, decide_eq_true g1, decide_eq_false g2]; rfl)
              clear HO
              go_wp2_with fail
              go_meet
              exact ⟨by rw [ho.out], rfl⟩
          · have ho := Lib.hid (show oneL s = false by rw [HO.out, decide_eq_false g1]; rfl)
            clear HO
            go_wp2_with fail
            go_meet
            exact ⟨by rw [ho.out], rfl⟩
        · have e1 : ((s.size : Int) == 1) = false := by rw [beq_eq_false_iff_ne]; omega
          have ho := Lib.hid (show oneL s = false by unfold oneL; rw [decide_eq_false hs1]; rfl)
          clear hs1
          go_wp2_with fail
          go_meet
          exact ⟨by rw [ho.out], rfl⟩
      case rest =>
        obtain ⟨rfl, rfl⟩ := hcut
        generalize oneL s = ol at *
        go_wp2_with fail
        refine (CL.out _ hb4).mono ?_
        rintro e w5 ⟨rfl, hb5⟩
        have hb45 := Bt hb4 hb5
        clear hb4 hb5 CX CL
        go_wp2_with fail
        go_loopw [14] (fun x wz => ∃ i : Nat, i ≤ p.size ∧ x = .int .i64 i ∧ (∀ j, j < i → j + 1 < p.size → ¬ (byteAt p j = 36 ∧ byteAt p (j + 1) = 40)) ∧ w5 = wz) (fun x _ => p.size - (intOf x).toNat)
        case atStart => exact ⟨0, Nat.zero_le _, rfl, fun j hj => by omega, by trivial⟩
        case round =>
          obtain ⟨i, hil, rfl, hall, rfl⟩ := hrel
          have z1 : IntKind.i64.wrap ((i : Int) + 1) = (i : Int) + 1 := IntWalk.i64_in _ (by omega)
          by_cases hlt : i + 1 < p.size
          · have hiI : (i : Int) + 1 < (p.size : Int) := by omega
            have hi1 : i < p.size := by omega
            have hiI1 : (i : Int) < (p.size : Int) := by omega
            have y1 : ((i : Int) + 1).toNat = i + 1 := by omega
            have y2 : (0 : Int) ≤ (i : Int) + 1 := by omega
            have hx1 := byteAt_idx (s := p) (i := i) hi1
            have hx2 := byteAt_idx (s := p) (i := i + 1) hlt
            have e36 : (((byteAt p i).toNat : Int) == 36) = decide (byteAt p i = 36) := by
              rw [Bool.eq_iff_iff, beq_iff_eq, decide_eq_true_eq, ← UInt8.toNat_inj]; show _ ↔ _ = 36; omega
            have e40 : (((byteAt p (i + 1)).toNat : Int) == 40) = decide (byteAt p (i + 1) = 40) := by
              rw [Bool.eq_iff_iff, beq_iff_eq, decide_eq_true_eq, ← UInt8.toNat_inj]; show _ ↔ _ = 40; omega
            have hst : (decide (byteAt p i = 36) && decide (byteAt p (i + 1) = 40)) = false → ∀ j, j < i + 1 → j + 1 < p.size → ¬ (byteAt p j = 36 ∧ byteAt p (j + 1) = 40) := fun h j hj hj2 => by
              by_cases hji : j = i
              · subst hji
                rintro ⟨k1, k2⟩
                rw [decide_eq_true k1, decide_eq_true k2] at h
                cases h
              · exact hall j (by omega) hj2
            have HST := Lib.hid hst
            clear hst hall
            generalize decide (byteAt p i = 36) = g1 at *
            generalize decide (byteAt p (i + 1) = 40) = g2 at *
            generalize byteAt p i = b1 at *
            generalize byteAt p (i + 1) = b2 at *
            cases g1 with
            | false =>
              have HX := Lib.hid (HST.out rfl)
              clear HST
              go_wp2_with fail
              go_roundw
              case rel => exact ⟨i + 1, by omega, by go_num, HX.out, by trivial⟩
              case measure => simp [intOf]; omega
            | true =>
              cases g2 with
              | false =>
                have HX := Lib.hid (HST.out rfl)
                clear HST
                go_wp2_with fail
                go_roundw
                case rel => exact ⟨i + 1, by omega, by go_num, HX.out, by trivial⟩
                case measure => simp [intOf]; omega
              | true =>
                clear HST
                go_wp2_with fail
                go_ret
                exact ⟨rfl, Bt hb1c (by assumption)⟩
          · have hiI : ¬ (i : Int) + 1 < (p.size : Int) := by omega
            have hm := HFR.out (fun j hj => hall j (by omega) hj)
            subst hm
            clear HFR hall
            go_wp2_with fail
            refine (CP.out _ hb45).mono ?_
            rintro e w6 ⟨rfl, hb6⟩
            have hb46 := Bt hb45 hb6
            clear hb6 CP
            go_wp2_with fail
            refine (CR.out _).mono ?_
            rintro e w7 ⟨rfl, hb7⟩
            have hb47 := Bt hb46 hb7
            have hb07 := Bt hb1c hb47
            go_wp2_with fail
            go_ret
            exact ⟨ret_bool (by simp), hb07⟩
end Go.Proofs.YtipenfeplampeaaDoor

/- Rows of numbers that came in: rows of bytes, rows of ints. -/
namespace Go.Proofs.YtipenfeplampeaaDoor
open Go.RowKit

/-- A slice of numbers that came in: nil, or a row of so many cells, each fitting its kind. -/
def IsRow (k : IntKind) (w : World) (a : Option Addr) (len cap : Nat) (zs : List Int) : Prop :=
  (a = none ∧ len = 0 ∧ cap = 0 ∧ zs = []) ∨
  ∃ x, a = some x ∧ len ≤ cap ∧ cap ≤ maxLen ∧ zs.length = cap ∧ (∀ i, i < zs.length → w.cell? (x.add i) = some (.int k (zs.getD i 0))) ∧ ∀ n ∈ zs, (Lit.int k n).wf = true

theorem spot_none {w : World} {x : Addr} {v : Value} (h : w.cell? (x.add 0) = some v) : x = ⟨x.block, x.off, none⟩ ∧ x.block < w.heap.size := by
  have hb := World.block_lt_of_cell? w _ h
  cases x with
  | mk b o s =>
    cases s with
    | none => exact ⟨rfl, hb⟩
    | some q =>
      simp only [World.cell?, Addr.add] at h
      split at h <;> simp at h

theorem IsRow.bytes {w : World} {a : Option Addr} {len cap : Nat} {zs : List Int} (h : IsRow .u8 w a len cap zs) : ∃ s : ByteArray, s.size = len ∧ BytesSl w (.slice a len cap) s := by
  rcases h with ⟨rfl, rfl, rfl, rfl⟩ | ⟨x, rfl, hl, hm, hz, hcell, hwz⟩
  · exact ⟨ByteArray.empty, rfl, .inl ⟨rfl, none, 0, rfl⟩⟩
  · have hsz : (⟨((zs.take len).map fun n => UInt8.ofNat n.toNat).toArray⟩ : ByteArray).size = len := by
      show (((zs.take len).map fun n => UInt8.ofNat n.toNat).toArray).size = _
      simp; omega
    refine ⟨⟨((zs.take len).map fun n => UInt8.ofNat n.toNat).toArray⟩, hsz, ?_⟩
    by_cases h0 : len = 0
    · exact .inl ⟨hsz.trans h0, some x, cap, by rw [h0]⟩
    · obtain ⟨hx, hb⟩ := spot_none (hcell 0 (by omega))
      refine .inr ⟨x.block, x.off, cap, by rw [hsz, ← hx], by rw [hsz]; exact hl, hm, hb, fun j hj => ?_⟩
      rw [hsz] at hj
      have hc := hcell j (by omega)
      have hadd : x.add j = ⟨x.block, x.off + j, none⟩ := by cases x; cases hx; simp [Addr.add]
      rw [hadd] at hc
      rw [hc]
      have hjz : j < zs.length := by omega
      have hw := hwz zs[j] (List.getElem_mem _)
      simp [Lit.wf, IntKind.min, IntKind.max, IntKind.signed, IntKind.bits] at hw
      simp only [byteAt, List.getD, List.getElem?_map, List.getElem?_take, if_pos hj, List.getElem?_eq_getElem hjz, Option.map_some, Option.getD_some]
      rw [UInt8.toNat_ofNat_of_lt' (by have : zs[j].toNat < 256 := by omega
                                       exact this), Int.toNat_of_nonneg hw.1]

/-- A slice of ints that reads as these numbers. -/
def IntsSl (w : World) (v : Value) (l : List Int) : Prop :=
  (l = [] ∧ ∃ a cap, v = .slice a 0 cap) ∨ ∃ b off cap, v = .slice (some ⟨b, off, none⟩) l.length cap ∧ l.length ≤ cap ∧ cap ≤ maxLen ∧ b < w.heap.size ∧ ∀ j, j < l.length → w.cell? ⟨b, off + j, none⟩ = some (.int .i64 (l.getD j 0))
theorem IntsSl.below {w w' : World} {v : Value} {l : List Int} (h : IntsSl w v l) (hb : Below w.heap.size w w') : IntsSl w' v l := by
  rcases h with h | ⟨b, off, cap, e, h1, h2, h3, h4⟩
  · exact .inl h
  · exact .inr ⟨b, off, cap, e, h1, h2, Nat.lt_of_lt_of_le h3 hb.size, fun j hj => (hb.cell (p := ⟨b, off + j, none⟩) h3).trans (h4 j hj)⟩
theorem IsRow.ints {w : World} {a : Option Addr} {len cap : Nat} {zs : List Int} (h : IsRow .i64 w a len cap zs) : ∃ l : List Int, l.length = len ∧ IntsSl w (.slice a len cap) l ∧ ∀ n ∈ l, (Lit.int .i64 n).wf = true := by
  rcases h with ⟨rfl, rfl, rfl, rfl⟩ | ⟨x, rfl, hl, hm, hz, hcell, hwz⟩
  · exact ⟨[], rfl, .inl ⟨rfl, none, 0, rfl⟩, fun _ h => by cases h⟩
  · have hlen : (zs.take len).length = len := by simp; omega
    refine ⟨zs.take len, hlen, ?_, fun n hn => hwz n (List.mem_of_mem_take hn)⟩
    by_cases h0 : len = 0
    · exact .inl ⟨by rw [h0]; rfl, some x, cap, by rw [h0]⟩
    · obtain ⟨hx, hb⟩ := spot_none (hcell 0 (by omega))
      refine .inr ⟨x.block, x.off, cap, by rw [hlen, ← hx], by rw [hlen]; exact hl, hm, hb, fun j hj => ?_⟩
      rw [hlen] at hj
      have hc := hcell j (by omega)
      have hadd : x.add j = ⟨x.block, x.off + j, none⟩ := by cases x; cases hx; simp [Addr.add]
      rw [hadd] at hc
      rw [hc]
      simp [List.getD, hj]
end Go.Proofs.YtipenfeplampeaaDoor

/- A call's contract that keeps the world's shape; the shape gives the library's variable. -/
namespace Go.Proofs.YtipenfeplampeaaDoor
open Go.ChangeShapes Go.WideShapes Go.ChangeAt Go.RowKit

section
variable {H : Type} {enc : TypeId × Value → H}
theorem handed_and_shaped {a : Assume} {C : Checked} {os : Os} {f : FuncId} {fn : Func} {s : ChangeSpec} {conds : List PathCond} {apart fresh handsOn again : Bool} {X : World → Array Value → Prop}
    (hX : ∀ (w w' : World) (args : Array Value), w.heap = w'.heap → X w args → X w' args)
    (own : ownKnob C.prog.godebug = none) (started : os.Started) (noInit : C.prog.inits.idxOf? f = none) (hfn : C.prog.funcs[f]? = some fn)
    (witness : ∃ (w : World) (tape : Tape) (i : Input), w.os = os ∧ (w.forCall tape i).Shaped C.prog ∧ i.vars = [] ∧ Input.okWide C.prog (w.forCall tape i) .any w.heap.size f i ∧
      ((s.pre enc C.prog fn conds apart (w.forCall tape i).memory i.args ∧ X (w.forCall tape i).memory i.args) ∧ sizedMet enc C.prog fn (OpenSpec.ofChange s) apart (w.forCall tape i).memory i.args) ∧ a.holds C.prog (lone (Frame.enter C.prog f i.args .normal) [] (w.forCall tape i)))
    (contract : ∀ (W : World) (base : Nat) (args : Array Value) (ds gs : List (DataW H)) (before : List MemPlace),
      (∀ (j : Nat) t v, fn.params[j]? = some t → args[j]? = some v → Value.okWide C.prog W .any base t v) →
      DataW.Whole enc C.prog fn.params.toList s.vars apart W args.toList ds gs before →
      conds.all (PathCond.test C.prog ⟨fn.params.toList, ds, s.plain.varTypes C.prog, gs⟩) = true →
      (DataW.weightsEach C.prog (fn.params.toList ++ s.plain.varTypes C.prog) (ds ++ gs)).all (· ≤ reachBytes) = true → X W args → W.ShapedOpen C.prog →
      a.holds C.prog (lone (Frame.enter C.prog f args .normal) [] W) →
      Calls C.prog f args W fun e W' => ∃ v, e = .returned v ∧ s.post enc C.prog fn apart fresh handsOn again W args v W') :
    ReturnsInHanded a C os f .any (fun w args => (s.pre enc C.prog fn conds apart w args ∧ X w args) ∧ sizedMet enc C.prog fn (OpenSpec.ofChange s) apart w args) (s.post enc C.prog fn apart fresh handsOn again) := by
  refine returnsInHanded_of_calls own started noInit witness ?_
  intro w tape i _ hsh _ hok hpre hholds
  obtain ⟨_, _, _, fn', hfn', _, _, _, _, hval⟩ := hok
  have e : fn' = fn := Option.some.inj (hfn'.symm.trans hfn)
  subst e
  obtain ⟨⟨⟨ds, gs, before, hw, hc⟩, hx⟩, hz⟩ := hpre
  have hw' := DataW.Whole.of_heap (w' := w.forCall tape i) (by rfl) hw
  refine (contract (w.forCall tape i) w.heap.size i.args ds gs before hval hw' hc (hz.weights hw) (hX _ _ _ (by rfl) hx) hsh hholds).mono fun e W' ⟨v, he, hp⟩ => ?_
  subst he
  exact ChangeSpec.post_blind hp
end
theorem maxAt_of_shape {W : World} (h : W.ShapedOpen Tryd.prog) : MaxAt W :=
  cell_of_shapedOpen_int (t := 3) (zero := #[.int .i64 0]) h (of_decide_eq_true (by kernel_rfl)) (by kernel_rfl) (by kernel_rfl) (by kernel_rfl) (by kernel_rfl) (by kernel_rfl)
end Go.Proofs.YtipenfeplampeaaDoor

/- What subst's cards ask: the classes, as the program's text lays them; strings that came in. -/
namespace Go.Proofs.YtipenfeplampeaaDoor
open Go.ChangeShapes Go.WideShapes Go.RowKit

set_option maxRecDepth 100000 in
theorem open_strsV {H : Type} {enc : TypeId × Value → H} {W : World} {base : Nat} {spare : Nat → Bool} {held : Bool} {fuel : Nat} {cs : List Value} {x : DataW H × List MemPlace} (h : DataW.trod enc Tryd.prog W base spare held fuel 22 cs = some x) :
    ∃ (a : Option Addr) (l : List ByteArray) (cap : Nat), cs = [.slice a l.length cap] ∧ l.length ≤ maxLen ∧ StrsV W (.slice a l.length cap) l := by
  rcases open_strings Tryd.underlying22 Tryd.underlying9 (by kernel_rfl) h with ⟨rfl, _⟩ | ⟨a, len, cap, ss, rfl, _, hl, hm, hz, _, hcell, _⟩
  · exact ⟨none, [], 0, rfl, Nat.zero_le _, ⟨none, 0, rfl, Nat.le_refl _, fun i s h => by simp at h⟩⟩
  have hsl : len ≤ ss.length := by rw [hz]; split <;> omega
  have hlen : (ss.take len).length = len := by rw [List.length_take]; omega
  refine ⟨some a, ss.take len, cap, by rw [hlen], by rw [hlen]; omega, some a, cap, rfl, by rw [hlen]; exact hl, fun i s hs => ?_⟩
  rw [List.getElem?_take] at hs
  split at hs
  · next hi =>
    have c0 := hcell 0 (by omega)
    obtain ⟨hspot, hblk⟩ := spot_none c0
    obtain ⟨ab, ao, asp⟩ := a
    obtain rfl : asp = none := by injection hspot
    refine ⟨ab, ao, rfl, hblk, ?_⟩
    have := hcell i (by omega)
    rw [Addr.add_lit] at this
    rw [this, List.getD, hs]; rfl
  · cases hs
set_option maxRecDepth 100000 in
theorem class_of_reads {w : World} (h : Lib.VarReads Tryd.prog w "waybill/subst.classes" Rows.laid_waybill_subst_classes) : ClassLaid w := by
  obtain ⟨g, t, cs, fuel, p, hg, hty, hvar, hd⟩ := h
  obtain rfl := Option.some.inj ((show Tryd.prog.globalNamed "waybill/subst.classes" = some 1 by kernel_rfl).symm.trans hg)
  obtain rfl := Option.some.inj ((show (Tryd.prog.globals[1]?).map (·.type) = some 96 by kernel_rfl).symm.trans hty)
  have e : (Rows.laid_waybill_subst_classes : DataW Unit) = .agg (clsT.map fun c => .agg [.lit (.string c.1.data.toList), .lit (.string c.2.1.data.toList), .lit (.int .i64 (c.2.2 : Nat))]) := by kernel_rfl
  rw [e] at hd
  have hc : Tryd.prog.cellsOf 61 = 3 := by kernel_rfl
  have h1 : Tryd.prog.cellsOf 3 = 1 := by kernel_rfl
  have hs1 : Tryd.prog.cellsOf 9 = 1 := by kernel_rfl
  have each : ∀ i x, clsT[i]? = some x → w.cell? ⟨1, i * 3, none⟩ = some (.string x.1) ∧ w.cell? ⟨1, i * 3 + 1, none⟩ = some (.string x.2.1) ∧ w.cell? ⟨1, i * 3 + 2, none⟩ = some (.int .i64 (x.2.2 : Nat)) := by
    intro i x hx
    have hi : i < 8 := (List.getElem?_eq_some_iff.1 hx).1
    obtain ⟨fuel', d, q, hdi, he⟩ := Lib.array_elem Tryd.underlying96 hd i hi
    rw [List.getElem?_map, hx] at hdi
    simp only [Option.map_some, Option.some.injEq] at hdi
    subst hdi
    rw [hc] at he
    obtain ⟨y0, y1, y2, n, hy, _, g0, g1, g2⟩ := Go.Deep.trod_struct3 Tryd.underlying61 he
    simp only [hs1, h1] at g0 g1 g2
    obtain ⟨s0, e0, rfl, _⟩ := DataW.trod_string Tryd.underlying9 g0
    obtain ⟨s1, e1, rfl, _⟩ := DataW.trod_string Tryd.underlying9 g1
    obtain ⟨z2, e2, rfl, _⟩ := DataW.trod_int Tryd.underlying3 g2
    simp only [Prod.mk.injEq, DataW.agg.injEq, List.cons.injEq, DataW.lit.injEq, Lit.string.injEq, Lit.int.injEq, and_true, true_and] at hy
    obtain ⟨⟨k0, k1, k2⟩, _⟩ := hy
    have r0 : s0 = x.1 := by
      apply ByteArray.ext; apply Array.ext'; exact k0.symm
    have r1 : s1 = x.2.1 := by
      apply ByteArray.ext; apply Array.ext'; exact k1.symm
    subst r0 r1
    have c0 := congrArg (·[0]?) e0
    have c1 := congrArg (·[0]?) e1
    have c2 := congrArg (·[0]?) e2
    simp only [List.getElem?_take, List.getElem?_drop] at c0 c1 c2
    refine ⟨?_, ?_, ?_⟩
    · rw [World.var?_cell hg hvar (i * 3), ← Array.getElem?_toList]
      simpa using c0
    · rw [World.var?_cell hg hvar (i * 3 + 1), ← Array.getElem?_toList]
      simpa using c1
    · rw [World.var?_cell hg hvar (i * 3 + 2), ← Array.getElem?_toList]
      rw [k2]
      simpa using c2
  refine ⟨World.block_lt_of_cell? w _ (each 0 _ rfl).1, fun i x hx => ?_⟩
  simp only [Nat.zero_add]
  exact each i x hx
end Go.Proofs.YtipenfeplampeaaDoor

/- The walk of SubstPlain, as the card asks it. -/
namespace Go.Proofs.YtipenfeplampeaaDoor
open Go.RowKit

theorem walkSubstPlain (p s : ByteArray) (a : Option Addr) (l : List ByteArray) (cap : Nat) (fold : Bool) (w : World) (hU : Utf8Laid w) (hL : ClassLaid w) (hM : MaxAt w) (hp : p.size ≤ maxLen) (hs : s.size ≤ maxLen) (hl : l.length ≤ maxLen) (hv : StrsV w (.slice a l.length cap) l) :
    Calls Tryd.prog 4 #[.string p, .string s, .slice a l.length cap, .bool fold] w fun e w' => e = .returned (.bool true) ∧ Below w.heap.size w w' := plain_walk19 p s a cap l fold w hU hL hM hv hl hp hs
end Go.Proofs.YtipenfeplampeaaDoor
