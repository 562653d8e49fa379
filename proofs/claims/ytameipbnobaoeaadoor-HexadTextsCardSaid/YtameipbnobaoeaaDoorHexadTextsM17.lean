/- The reference of chapter 12: Text. -/
import Derived.Test.YtameipbnobaoeaaDoorHexadTextsM16
import Derived.Test.YtameipbnobaoeaaDoorHexadTextsM14

namespace Go.Proofs.YtameipbnobaoeaaDoor
open Go.RowKit

theorem str_mid (T X : List UInt8) : Value.string (ofL T ++ (⟨#[58]⟩ : ByteArray) ++ ofL X) = Value.string (ofL (T ++ 58 :: X)) := by
  show Value.string (ofL T ++ ofL [58] ++ ofL X) = _
  rw [ofL_app, ofL_app, List.append_assoc]
  rfl
theorem str_two (T X : List UInt8) : Value.string (ofL T ++ ofL X) = Value.string (ofL (T ++ X)) := by rw [ofL_app]
theorem ref_group_text {x : Nat} (hx : x < 65536) : ∃ R0 : ByteArray, (∀ W, Calls Tryd.prog 19 #[.int .u64 (x : Int), .int .u64 16, .int .i64 1] W fun e w' => e = .returned (.string R0) ∧ Below W.heap.size W w') ∧ ∀ W, Calls Tryd.prog 18 #[.string R0] W fun e w' => e = .returned (.string (ofL (hexG x))) ∧ Below W.heap.size W w' := by
  have hz0 : (⟨(writ 16 x 1).toArray⟩ : ByteArray).size ≤ 16777216 := by
    have h4 := hexG_len hx
    unfold hexG lowerL at h4
    rw [List.length_map] at h4
    show ((writ 16 x 1).toArray).size ≤ _
    rw [List.size_toArray]; omega
  refine ⟨⟨(writ 16 x 1).toArray⟩, fun W => ?_, fun W => ?_⟩
  · refine (ref_Written x 16 1 W (by omega) (by omega) (by omega) (by omega) (by omega)).mono ?_
    rintro e w' h
    obtain ⟨he, q, rfl⟩ := h
    rw [show (min (1:Int) 16).toNat = 1 by decide] at he
    exact ⟨he, below_drewN (Below.refl _ _) q⟩
  · have := ref_Lower ⟨(writ 16 x 1).toArray⟩ W hz0
    rw [hexG_is] at this
    exact this
theorem runZ_le {g : List Nat} (hl : g.length = 8) (i : Nat) : runZ (zerosH g) i ≤ 8 := by
  unfold runZ
  have h1 : ∀ l : List Bool, (l.takeWhile id).length ≤ l.length := fun l => (List.takeWhile_sublist _).length_le
  have := h1 ((zerosH g).drop i)
  rw [List.length_drop] at this
  unfold zerosH at this ⊢
  rw [List.length_map] at this
  omega
theorem refA_le {g : List Nat} (hl : g.length = 8) : ∀ i, i ≤ 8 → (refA (zerosH g) i).1 ≤ 8 ∧ (refA (zerosH g) i).2 ≤ 8 := by
  intro i
  induction i with
  | zero => intro _; exact ⟨Nat.zero_le _, Nat.zero_le _⟩
  | succ i ih =>
    intro hi
    have := ih (by omega)
    have hr := runZ_le hl i
    rw [refA]
    split
    · exact ⟨by simp only; omega, hr⟩
    · exact this
theorem piece_len {g : List Nat} (hg : ∀ x ∈ g, x < 65536) (a s i : Nat) : (pieceR a s g i).length ≤ 7 := by
  have h4 := (hexG_len (getD_lt hg (by omega) i)).2
  unfold pieceR
  generalize hexG (g.getD i 0) = H at *
  split <;> split <;> (try split) <;> simp <;> omega
theorem outR_len {g : List Nat} (hg : ∀ x ∈ g, x < 65536) (a s : Nat) : ∀ i, (outR a s g i).length ≤ 7 * i := by
  intro i
  induction i with
  | zero => exact Nat.le_refl _
  | succ i ih =>
    have := piece_len hg a s i
    rw [outR, List.length_append]
    omega
set_option maxHeartbeats 3200000 in
set_option maxRecDepth 100000 in
theorem ref12_Text (g : List Nat) (w : World) (hl : g.length = 8) (hg : ∀ x ∈ g, x < 65536) :
    Calls Tryd.prog 8 #[.agg (g.map u16V).toArray] w fun e w' => e = .returned (.string (ofL (textH g))) ∧ Below w.heap.size w w' := by
  have hA0 : ArrAt (w.alloc (.cells (g.map u16V).toArray 26)) w.heap.size 26 (g.map u16V) := heap_alloc_new w _
  have hst : Below w.heap.size w (w.alloc (.cells (g.map u16V).toArray 26)) := (Below.refl _ _).alloc (Nat.le_refl _) _
  have hcell : ∀ W j, ArrAt W w.heap.size 26 (g.map u16V) → j < 8 → W.cell? ⟨w.heap.size, j, none⟩ = some (.int .u16 ((g.getD j 0 : Nat) : Int)) := fun W j hW hj =>
    hW.cell (v := u16V (g.getD j 0)) (by rw [List.getElem?_map, List.getD, List.getElem?_eq_getElem (by omega)]; rfl)
  have hout := out_text hl
  have hlong := ref_long hl
  have hle := fun i hi => refA_le (g := g) hl i hi
  have hlt := hg
  have hall := fun i k hi h he => runZ_is (g := g) (i := i) (k := k) hi h he
  have holen := fun a s i => outR_len hg a s i
  have HOUT := Lib.hid hout
  have HLONG := Lib.hid hlong
  have HLE := Lib.hid hle
  have HALL := Lib.hid hall
  have HLEN := Lib.hid holen
  have HG := Lib.hid hg
  have HC := Lib.hid hcell
  have hgl := Lib.hid hl
  have HA0 := Lib.hid hA0
  clear hout hlong hle hlt hall holen hg hcell hl hA0
  go_enter Tryd.func8, Tryd.ntmps8
  go_wp2_with fail
  go_loopw [3, 4, 5] (fun b s x wr => ∃ i : Nat, i ≤ 8 ∧ x = .int .i64 i ∧ b = .int .i64 ((refA (zerosH g) i).1 : Nat) ∧ s = .int .i64 ((refA (zerosH g) i).2 : Nat) ∧ (w.alloc (.cells (g.map u16V).toArray 26)) = wr) (fun _ _ x _ => 8 - (intOf x).toNat)
  case atStart => exact ⟨0, Nat.zero_le _, rfl, rfl, rfl, by first | rfl | trivial⟩
  case round =>
    obtain ⟨i, hil, rfl, rfl, rfl, hw⟩ := hrel
    subst hw
    by_cases hlt : i < 8
    · have hiI : (i : Int) < 8 := by omega
      go_wp2_with fail
      go_loopw [6] (fun x wr => ∃ k : Nat, i + k ≤ 8 ∧ x = .int .i64 k ∧ (∀ j, j < k → g.getD (i + j) 0 = 0) ∧ (w.alloc (.cells (g.map u16V).toArray 26)) = wr) (fun x _ => 8 - (intOf x).toNat)
      case atStart => exact ⟨0, by omega, rfl, fun j hj => absurd hj (by omega), by first | rfl | trivial⟩
      case round =>
        obtain ⟨k, hkl, rfl, hz, hw⟩ := hrel
        subst hw
        have z1 : IntKind.i64.wrap ((i : Int) + (k : Int)) = (i : Int) + (k : Int) := IntWalk.i64_in _ (by omega)
        have HZ := Lib.hid hz
        clear hz
        by_cases hk : i + k < 8
        · have hkI : (i : Int) + (k : Int) < 8 := by omega
          have z3 : (0 : Int) ≤ (i : Int) + (k : Int) := by omega
          have z7 : ((i : Int) + (k : Int)).toNat = i + k := by omega
          have c := HC.out _ (i + k) HA0.out hk
          by_cases hn : g.getD (i + k) 0 = 0
          · rw [hn] at c
            go_wp2_with fail
            go_roundw
            case rel => exact ⟨k + 1, by omega, by go_num, fun j hj => by
              by_cases e : j = k
              · rw [e]; exact hn
              · exact HZ.out j (by omega), by first | rfl | trivial⟩
            case measure => simp [intOf]; omega
          · have hr := HALL.out i k (by rw [hgl.out]; exact hkl) HZ.out (.inr hn)
            generalize g.getD (i + k) 0 = n at *
            have e1 : ((n : Int) == 0) = false := by simp; omega
            have hrel : refA (zerosH g) (i + 1) = if (refA (zerosH g) i).2 < k then (i, k) else refA (zerosH g) i := by rw [refA, hr]
            have h8 := HLE.out i (by omega)
            generalize refA (zerosH g) i = st at *
            obtain ⟨b, s⟩ := st
            dsimp only at hrel h8
            by_cases hs : s < k
            · have hsI : (k : Int) > (s : Int) := by omega
              rw [if_pos hs] at hrel
              have HR := Lib.hid hrel
              clear hrel hr hs
              go_wp2_with fail
              go_roundw
              case rel => exact ⟨i + 1, by omega, by go_num, by rw [HR.out], by rw [HR.out], by first | rfl | trivial⟩
              case measure => simp [intOf]; omega
            · have hsI : ¬ (k : Int) > (s : Int) := by omega
              rw [if_neg hs] at hrel
              have HR := Lib.hid hrel
              clear hrel hr hs
              go_wp2_with fail
              go_roundw
              case rel => exact ⟨i + 1, by omega, by go_num, by rw [HR.out], by rw [HR.out], by first | rfl | trivial⟩
              case measure => simp [intOf]; omega
        · have hkI : ¬ (i : Int) + (k : Int) < 8 := by omega
          have hr := HALL.out i k (by rw [hgl.out]; exact hkl) HZ.out (.inl (by rw [hgl.out]; omega))
          have hrel : refA (zerosH g) (i + 1) = if (refA (zerosH g) i).2 < k then (i, k) else refA (zerosH g) i := by rw [refA, hr]
          have h8 := HLE.out i (by omega)
          generalize refA (zerosH g) i = st at *
          obtain ⟨b, s⟩ := st
          dsimp only at hrel h8
          by_cases hs : s < k
          · have hsI : (k : Int) > (s : Int) := by omega
            rw [if_pos hs] at hrel
            have HR := Lib.hid hrel
            clear hrel hr hs
            go_wp2_with fail
            go_roundw
            case rel => exact ⟨i + 1, by omega, by go_num, by rw [HR.out], by rw [HR.out], by first | rfl | trivial⟩
            case measure => simp [intOf]; omega
          · have hsI : ¬ (k : Int) > (s : Int) := by omega
            rw [if_neg hs] at hrel
            have HR := Lib.hid hrel
            clear hrel hr hs
            go_wp2_with fail
            go_roundw
            case rel => exact ⟨i + 1, by omega, by go_num, by rw [HR.out], by rw [HR.out], by first | rfl | trivial⟩
            case measure => simp [intOf]; omega
    · have hi8 : i = 8 := by omega
      have hiJ : ¬ (i : Int) < 8 := by omega
      rw [show refA (zerosH g) i = refA (zerosH g) 8 by rw [hi8]]
      have h8 := HLE.out 8 (by omega)
      have hOUT : outR (refA (zerosH g) 8).1 (refA (zerosH g) 8).2 g 8 = textH g := by rw [HLONG.out]; exact HOUT.out
      generalize refA (zerosH g) 8 = st at *
      obtain ⟨a, s⟩ := st
      dsimp only at hOUT h8
      obtain ⟨ha8, hs8⟩ := h8
      have hLEN := HLEN.out a s
      have HO := Lib.hid hOUT
      have HL := Lib.hid hLEN
      clear hOUT hLEN HOUT HLONG HLE HALL HLEN
      go_wp2_with fail
      go_loopw [7, 8] (fun o x wr => ∃ i : Nat, i ≤ 8 ∧ x = .int .i64 i ∧ o = .string (ofL (outR a s g i)) ∧ Below w.heap.size w wr ∧ ArrAt wr w.heap.size 26 (g.map u16V)) (fun _ x _ => 8 - (intOf x).toNat)
      case atStart => exact ⟨0, Nat.zero_le _, rfl, rfl, hst, HA0.out⟩
      case round =>
        obtain ⟨i, hil, rfl, rfl, hbr, hAr⟩ := hrel
        have z1 : IntKind.i64.wrap ((a : Int) + (s : Int)) = (a : Int) + (s : Int) := IntWalk.i64_in _ (by omega)
        by_cases hlt : i < 8
        · have hiI : (i : Int) < 8 := by omega
          have hli := HL.out i
          have hnx : outR a s g (i + 1) = outR a s g i ++ pieceR a s g i := rfl
          have htz := ofL_size (outR a s g i)
          by_cases hs : 2 ≤ s
          · have hsI : (s : Int) ≥ 2 := by omega
            have hsI2 : ¬ (s : Int) < 2 := by omega
            by_cases hia : i = a
            · have e1 : ((i : Int) == (a : Int)) = true := by simp; omega
              have g1 : (i : Int) ≥ (a : Int) := by omega
              have g2 : (i : Int) < (a : Int) + (s : Int) := by omega
              have hp : pieceR a s g i = [58, 58] := by unfold pieceR; rw [if_pos ⟨hs, hia⟩, if_pos ⟨hs, by omega, by omega⟩]; rfl
              rw [hp] at hnx
              have HN := Lib.hid hnx
              clear hnx hp
              generalize outR a s g i = T at *
              have n1 : ¬ 9223372036854775807 < (ofL T).size + 2 := by omega
              go_wp2_with fail
              go_roundw
              case rel => exact ⟨i + 1, by omega, by go_num, by rw [HN.out]; first | rfl | (rw [← ofL_app]; rfl) | rw [List.append_nil], hbr, hAr⟩
              case measure => simp [intOf]; omega
            · have e1 : ((i : Int) == (a : Int)) = false := by simp; omega
              by_cases hin : a ≤ i ∧ i < a + s
              · have g1 : (i : Int) ≥ (a : Int) := by omega
                have g2 : (i : Int) < (a : Int) + (s : Int) := by omega
                have hp : pieceR a s g i = [] := by unfold pieceR; rw [if_neg (fun h => hia h.2), if_pos ⟨hs, hin.1, hin.2⟩]; rfl
                rw [hp] at hnx
                have HN := Lib.hid hnx
                clear hnx hp
                generalize outR a s g i = T at *
                go_wp2_with fail
                go_roundw
                case rel => exact ⟨i + 1, by omega, by go_num, by rw [HN.out]; first | rfl | (rw [← ofL_app]; rfl) | rw [List.append_nil], hbr, hAr⟩
                case measure => simp [intOf]; omega
              · have hni : ¬ (2 ≤ s ∧ a ≤ i ∧ i < a + s) := fun h => hin h.2
                by_cases hc : 0 < i ∧ i ≠ a + s
                · have hp : pieceR a s g i = 58 :: hexG (g.getD i 0) := by unfold pieceR; rw [if_neg (fun h => hia h.2), if_neg hni, if_pos ⟨hc.1, .inr hc.2⟩]; rfl
                  rw [hp] at hnx
                  have p1 : (i : Int) > 0 := by omega
                  have p2 : ((i : Int) != (a : Int) + (s : Int)) = true := by simp; omega
                  by_cases g1n : a ≤ i
                  · have g1 : (i : Int) ≥ (a : Int) := by omega
                    have g2 : ¬ (i : Int) < (a : Int) + (s : Int) := by omega
                    have HN := Lib.hid hnx
                    clear hnx hp
                    have hx := getD_lt HG.out (by omega) i
                    have c := HC.out wr i hAr hlt
                    have h4 := (hexG_len hx).2
                    obtain ⟨R0, cW, cL⟩ := ref_group_text hx
                    have htz4 := ofL_size (hexG (g.getD i 0))
                    have CW := Lib.hid cW
                    have CL := Lib.hid cL
                    clear cW cL
                    generalize hexG (g.getD i 0) = X at *
                    generalize g.getD i 0 = n at *
                    have zw : IntKind.u64.wrap (n : Int) = (n : Int) := IntWalk.u64_in _ (by omega)
                    generalize outR a s g i = T at *
                    have n1 : ¬ 9223372036854775807 < (ofL T).size + 1 := by omega
                    have n2 : ¬ 9223372036854775807 < (ofL T).size + (ofL X).size := by omega
                    have n3 : ¬ 9223372036854775807 < (ofL T).size + 1 + (ofL X).size := by omega
                    clear htz htz4 hli h4
                    go_wp2_with fail
                    refine (CW.out _).mono ?_
                    rintro e w2 ⟨rfl, hb2⟩
                    go_wp2_with fail
                    refine (CL.out _).mono ?_
                    rintro e w3 ⟨rfl, hb3⟩
                    have hbE := Bt hbr (Bt hb2 hb3)
                    have hAE := hAr.below (Bt hb2 hb3)
                    go_wp2_with fail
                    go_roundw
                    case rel => exact ⟨i + 1, by omega, by go_num, by rw [HN.out]; first | exact str_mid _ _ | exact str_two _ _, hbE, hAE⟩
                    case measure => simp [intOf]; omega
                  · have g1 : ¬ (i : Int) ≥ (a : Int) := by omega
                    have HN := Lib.hid hnx
                    clear hnx hp
                    have hx := getD_lt HG.out (by omega) i
                    have c := HC.out wr i hAr hlt
                    have h4 := (hexG_len hx).2
                    obtain ⟨R0, cW, cL⟩ := ref_group_text hx
                    have htz4 := ofL_size (hexG (g.getD i 0))
                    have CW := Lib.hid cW
                    have CL := Lib.hid cL
                    clear cW cL
                    generalize hexG (g.getD i 0) = X at *
                    generalize g.getD i 0 = n at *
                    have zw : IntKind.u64.wrap (n : Int) = (n : Int) := IntWalk.u64_in _ (by omega)
                    generalize outR a s g i = T at *
                    have n1 : ¬ 9223372036854775807 < (ofL T).size + 1 := by omega
                    have n2 : ¬ 9223372036854775807 < (ofL T).size + (ofL X).size := by omega
                    have n3 : ¬ 9223372036854775807 < (ofL T).size + 1 + (ofL X).size := by omega
                    clear htz htz4 hli h4
                    go_wp2_with fail
                    refine (CW.out _).mono ?_
                    rintro e w2 ⟨rfl, hb2⟩
                    go_wp2_with fail
                    refine (CL.out _).mono ?_
                    rintro e w3 ⟨rfl, hb3⟩
                    have hbE := Bt hbr (Bt hb2 hb3)
                    have hAE := hAr.below (Bt hb2 hb3)
                    go_wp2_with fail
                    go_roundw
                    case rel => exact ⟨i + 1, by omega, by go_num, by rw [HN.out]; first | exact str_mid _ _ | exact str_two _ _, hbE, hAE⟩
                    case measure => simp [intOf]; omega
                · have hp : pieceR a s g i = hexG (g.getD i 0) := by unfold pieceR; rw [if_neg (fun h => hia h.2), if_neg hni, if_neg (fun h => by rcases h.2 with h2 | h2 <;> first | omega | exact hc ⟨h.1, h2⟩)]; rfl
                  rw [hp] at hnx
                  by_cases h0 : 0 < i
                  · have p1 : (i : Int) > 0 := by omega
                    have p2 : ((i : Int) != (a : Int) + (s : Int)) = false := by simp; omega
                    have g1 : (i : Int) ≥ (a : Int) := by omega
                    have g2 : ¬ (i : Int) < (a : Int) + (s : Int) := by omega
                    have HN := Lib.hid hnx
                    clear hnx hp
                    have hx := getD_lt HG.out (by omega) i
                    have c := HC.out wr i hAr hlt
                    have h4 := (hexG_len hx).2
                    obtain ⟨R0, cW, cL⟩ := ref_group_text hx
                    have htz4 := ofL_size (hexG (g.getD i 0))
                    have CW := Lib.hid cW
                    have CL := Lib.hid cL
                    clear cW cL
                    generalize hexG (g.getD i 0) = X at *
                    generalize g.getD i 0 = n at *
                    have zw : IntKind.u64.wrap (n : Int) = (n : Int) := IntWalk.u64_in _ (by omega)
                    generalize outR a s g i = T at *
                    have n1 : ¬ 9223372036854775807 < (ofL T).size + 1 := by omega
                    have n2 : ¬ 9223372036854775807 < (ofL T).size + (ofL X).size := by omega
                    have n3 : ¬ 9223372036854775807 < (ofL T).size + 1 + (ofL X).size := by omega
                    clear htz htz4 hli h4
                    go_wp2_with fail
                    refine (CW.out _).mono ?_
                    rintro e w2 ⟨rfl, hb2⟩
                    go_wp2_with fail
                    refine (CL.out _).mono ?_
                    rintro e w3 ⟨rfl, hb3⟩
                    have hbE := Bt hbr (Bt hb2 hb3)
                    have hAE := hAr.below (Bt hb2 hb3)
                    go_wp2_with fail
                    go_roundw
                    case rel => exact ⟨i + 1, by omega, by go_num, by rw [HN.out]; first | exact str_mid _ _ | exact str_two _ _, hbE, hAE⟩
                    case measure => simp [intOf]; omega
                  · have p1 : ¬ (i : Int) > 0 := by omega
                    have g1 : ¬ (i : Int) ≥ (a : Int) := by omega
                    have HN := Lib.hid hnx
                    clear hnx hp
                    have hx := getD_lt HG.out (by omega) i
                    have c := HC.out wr i hAr hlt
                    have h4 := (hexG_len hx).2
                    obtain ⟨R0, cW, cL⟩ := ref_group_text hx
                    have htz4 := ofL_size (hexG (g.getD i 0))
                    have CW := Lib.hid cW
                    have CL := Lib.hid cL
                    clear cW cL
                    generalize hexG (g.getD i 0) = X at *
                    generalize g.getD i 0 = n at *
                    have zw : IntKind.u64.wrap (n : Int) = (n : Int) := IntWalk.u64_in _ (by omega)
                    generalize outR a s g i = T at *
                    have n1 : ¬ 9223372036854775807 < (ofL T).size + 1 := by omega
                    have n2 : ¬ 9223372036854775807 < (ofL T).size + (ofL X).size := by omega
                    have n3 : ¬ 9223372036854775807 < (ofL T).size + 1 + (ofL X).size := by omega
                    clear htz htz4 hli h4
                    go_wp2_with fail
                    refine (CW.out _).mono ?_
                    rintro e w2 ⟨rfl, hb2⟩
                    go_wp2_with fail
                    refine (CL.out _).mono ?_
                    rintro e w3 ⟨rfl, hb3⟩
                    have hbE := Bt hbr (Bt hb2 hb3)
                    have hAE := hAr.below (Bt hb2 hb3)
                    go_wp2_with fail
                    go_roundw
                    case rel => exact ⟨i + 1, by omega, by go_num, by rw [HN.out]; first | exact str_mid _ _ | exact str_two _ _, hbE, hAE⟩
                    case measure => simp [intOf]; omega
          · have hsI : ¬ (s : Int) ≥ 2 := by omega
            have hsI2 : (s : Int) < 2 := by omega
            by_cases h0 : 0 < i
            · have p1 : (i : Int) > 0 := by omega
              have hp : pieceR a s g i = 58 :: hexG (g.getD i 0) := by unfold pieceR; rw [if_neg (fun h => hs h.1), if_neg (fun h => hs h.1), if_pos ⟨h0, .inl (by omega)⟩]; rfl
              rw [hp] at hnx
              have HN := Lib.hid hnx
              clear hnx hp
              have hx := getD_lt HG.out (by omega) i
              have c := HC.out wr i hAr hlt
              have h4 := (hexG_len hx).2
              obtain ⟨R0, cW, cL⟩ := ref_group_text hx
              have htz4 := ofL_size (hexG (g.getD i 0))
              have CW := Lib.hid cW
              have CL := Lib.hid cL
              clear cW cL
              generalize hexG (g.getD i 0) = X at *
              generalize g.getD i 0 = n at *
              have zw : IntKind.u64.wrap (n : Int) = (n : Int) := IntWalk.u64_in _ (by omega)
              generalize outR a s g i = T at *
              have n1 : ¬ 9223372036854775807 < (ofL T).size + 1 := by omega
              have n2 : ¬ 9223372036854775807 < (ofL T).size + (ofL X).size := by omega
              have n3 : ¬ 9223372036854775807 < (ofL T).size + 1 + (ofL X).size := by omega
              clear htz htz4 hli h4
              go_wp2_with fail
              refine (CW.out _).mono ?_
              rintro e w2 ⟨rfl, hb2⟩
              go_wp2_with fail
              refine (CL.out _).mono ?_
              rintro e w3 ⟨rfl, hb3⟩
              have hbE := Bt hbr (Bt hb2 hb3)
              have hAE := hAr.below (Bt hb2 hb3)
              go_wp2_with fail
              go_roundw
              case rel => exact ⟨i + 1, by omega, by go_num, by rw [HN.out]; first | exact str_mid _ _ | exact str_two _ _, hbE, hAE⟩
              case measure => simp [intOf]; omega
            · have p1 : ¬ (i : Int) > 0 := by omega
              have hp : pieceR a s g i = hexG (g.getD i 0) := by unfold pieceR; rw [if_neg (fun h => hs h.1), if_neg (fun h => hs h.1), if_neg (fun h => h0 h.1)]; rfl
              rw [hp] at hnx
              have HN := Lib.hid hnx
              clear hnx hp
              have hx := getD_lt HG.out (by omega) i
              have c := HC.out wr i hAr hlt
              have h4 := (hexG_len hx).2
              obtain ⟨R0, cW, cL⟩ := ref_group_text hx
              have htz4 := ofL_size (hexG (g.getD i 0))
              have CW := Lib.hid cW
              have CL := Lib.hid cL
              clear cW cL
              generalize hexG (g.getD i 0) = X at *
              generalize g.getD i 0 = n at *
              have zw : IntKind.u64.wrap (n : Int) = (n : Int) := IntWalk.u64_in _ (by omega)
              generalize outR a s g i = T at *
              have n1 : ¬ 9223372036854775807 < (ofL T).size + 1 := by omega
              have n2 : ¬ 9223372036854775807 < (ofL T).size + (ofL X).size := by omega
              have n3 : ¬ 9223372036854775807 < (ofL T).size + 1 + (ofL X).size := by omega
              clear htz htz4 hli h4
              go_wp2_with fail
              refine (CW.out _).mono ?_
              rintro e w2 ⟨rfl, hb2⟩
              go_wp2_with fail
              refine (CL.out _).mono ?_
              rintro e w3 ⟨rfl, hb3⟩
              have hbE := Bt hbr (Bt hb2 hb3)
              have hAE := hAr.below (Bt hb2 hb3)
              go_wp2_with fail
              go_roundw
              case rel => exact ⟨i + 1, by omega, by go_num, by rw [HN.out]; first | exact str_mid _ _ | exact str_two _ _, hbE, hAE⟩
              case measure => simp [intOf]; omega
        · obtain rfl : i = 8 := by omega
          rw [HO.out]
          go_wp2_with fail
          go_ret
          exact ⟨rfl, hbr⟩
end Go.Proofs.YtameipbnobaoeaaDoor
