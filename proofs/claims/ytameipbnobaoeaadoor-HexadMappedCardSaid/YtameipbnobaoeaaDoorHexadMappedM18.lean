/- The walk of HexadMapped. -/
import Derived.Test.YtameipbnobaoeaaDoorHexadMappedM15
import Derived.Test.YtameipbnobaoeaaDoorHexadMappedM17
import Derived.Test.YtameipbnobaoeaaDoorHexadMappedM8
import Derived.Deep.MidRow
import Derived.Deep.WholeRow
import Derived.Test.YtameipbnobaoeaaDoorHexadMappedM10
import Derived.Shelf.Vars
import Derived.HandedShaped
import Derived.ChangeSame
import Derived.Test.YtameipbnobaoeaaDoorHexadMappedM9
import Derived.LaidHandle
import Derived.LaidLaws
import Derived.Stop.Joined
import Derived.Lib.LaidU8T
import Derived.Shelf.Unicode.DecodeSlow

namespace Go.Proofs.YtameipbnobaoeaaDoor
open Go.RowKit

theorem mapV_cells (b : List Nat) : ∃ m0 m1 m2 m3 : Int, mapV b = #[.int .u8 m0, .int .u8 m1, .int .u8 m2, .int .u8 m3] ∧ (mapB b = true → m0 = (b.getD 12 0 : Nat) ∧ m1 = (b.getD 13 0 : Nat) ∧ m2 = (b.getD 14 0 : Nat) ∧ m3 = (b.getD 15 0 : Nat)) ∧ (mapB b = false → m0 = 0 ∧ m1 = 0 ∧ m2 = 0 ∧ m3 = 0) := by
  unfold mapV
  cases h : mapB b
  · exact ⟨0, 0, 0, 0, by rw [if_neg (by simp)], fun h => by simp at h, fun _ => ⟨rfl, rfl, rfl, rfl⟩⟩
  · exact ⟨_, _, _, _, by rw [if_pos rfl], fun _ => ⟨rfl, rfl, rfl, rfl⟩, fun h => by simp at h⟩
set_option maxHeartbeats 6400000 in
set_option maxRecDepth 100000 in
theorem mapped_walk12 (b : List Nat) (p q r s : Nat) (w : World) (hl : b.length = 16) (hb : ∀ x ∈ b, x < 256) (hp : p < 256) (hq : q < 256) (hr : r < 256) (hs : s < 256) (hg : Handle w) (hm : MaxAt w) :
    Calls Tryd.prog 4 #[.agg (b.map u8V).toArray, .agg #[.int .u8 (p : Int), .int .u8 (q : Int), .int .u8 (r : Int), .int .u8 (s : Int)]] w fun e w' => e = .returned (.bool true) ∧ Below w.heap.size w w' := by
  obtain ⟨m0, m1, m2, m3, hmv, hmy, hmn⟩ := mapV_cells b
  have hT := text_size hp hq hr hs
  have hCM : ∀ W, Calls Tryd.prog 11 #[.agg (b.map u8V).toArray] W fun e w' => e = .returned (.tuple #[.agg #[.int .u8 m0, .int .u8 m1, .int .u8 m2, .int .u8 m3], .bool (mapB b)]) ∧ Below W.heap.size W w' := fun W => hmv ▸ hexad_Mapped b W hl hb
  have hCT := fun W => law12_text p q r s hp hq hr hs W
  have hCP : ∀ W, Handle W → MaxAt W → Calls Tryd.prog 7 #[.string (⟨#[58, 58, 70, 70, 70, 70, 58]⟩ ++ textT p q r s)] W fun e w' => e = .returned (.tuple #[.agg ((mapL p q r s).map u8V).toArray, .nilIface]) ∧ Below W.heap.size W w' := fun W hg hm => by
    have := hexad_Parse (mapT p q r s) _ W (by have := mapT_size hp hq hr hs; omega) hg hm (parse_map hp hq hr hs)
    rw [bytes_map hq hs] at this
    exact this
  have hCL : ∀ W, Calls Tryd.prog 11 #[.agg ((mapL p q r s).map u8V).toArray] W fun e w' => e = .returned (.tuple #[.agg #[.int .u8 (p : Int), .int .u8 (q : Int), .int .u8 (r : Int), .int .u8 (s : Int)], .bool true]) ∧ Below W.heap.size W w' := fun W => by
    have := hexad_Mapped (mapL p q r s) W rfl (by intro x hx; simp [mapL] at hx; omega)
    rw [map_yes, map_val] at this
    exact this
  have lA : (b.map u8V).length = 16 := by rw [List.length_map, hl]
  have lB : ((mapL p q r s).map u8V).length = 16 := by rw [List.length_map]; rfl
  have oB : (((mapL p q r s).map u8V).toArray).all (·.oneCell') = true := by
    rw [List.all_toArray, List.all_eq_true]
    intro x hx
    obtain ⟨n, _, rfl⟩ := List.mem_map.1 hx
    rfl
  have hf : ∀ W, ArrAt W w.heap.size 23 (b.map u8V) → ∀ i, i < 16 → W.cell? ⟨w.heap.size, i, none⟩ = some (.int .u8 (b.getD i 0 : Nat)) := fun W hW i hi => hW.cell (by
    rw [List.getElem?_map, List.getD, List.getElem?_eq_getElem (by omega)]; rfl)
  have hmB : mapB b = ((b.take 10).all (fun x => decide (x = 0)) && (decide (b.getD 10 0 = 255) && decide (b.getD 11 0 = 255))) := rfl
  have hstep : ∀ i, i < 10 → (b.take (i + 1)).all (fun x => decide (x = 0)) = ((b.take i).all (fun x => decide (x = 0)) && decide (b.getD i 0 = 0)) := fun i hi => by
    rw [List.take_add_one, List.getElem?_eq_getElem (by omega), List.all_append]
    simp [List.getD, List.getElem?_eq_getElem (show i < b.length by omega)]
  have HST := Lib.hid hstep
  have HMB := Lib.hid hmB
  have HMY := Lib.hid hmy
  have HMN := Lib.hid hmn
  have HF := Lib.hid hf
  have CM := Lib.hid hCM
  have CT := Lib.hid hCT
  have CP := Lib.hid hCP
  have CL := Lib.hid hCL
  have OB := Lib.hid oB
  have LBL := Lib.hid lB
  have k6 : (Tryd.prog.info? 23).map (·.size) = some (b.map u8V).length := by rw [lA]; exact size_v6
  have K6 := Lib.hid k6
  have k6b : (Tryd.prog.info? 23).map (·.size) = some ((mapL p q r s).map u8V).length := by rw [lB]; exact size_v6
  have KB := Lib.hid k6b
  have U6 := Lib.hid (show Tryd.prog.underlying 23 = some (.array 16 5) from Tryd.underlying23)
  have hA0 : ArrAt (w.alloc (.cells (b.map u8V).toArray 23)) w.heap.size 23 (b.map u8V) := heap_alloc_new w _
  have hst0 : Below w.heap.size w (w.alloc (.cells (b.map u8V).toArray 23)) := (Below.refl _ _).alloc (Nat.le_refl _) _
  have hV0 := V4At.made (w.alloc (.cells (b.map u8V).toArray 23)) p q r s
  rw [World.size_alloc] at hV0
  have hst1 : Below (w.alloc (.cells (b.map u8V).toArray 23)).heap.size (w.alloc (.cells (b.map u8V).toArray 23)) ((w.alloc (.cells (b.map u8V).toArray 23)).alloc (.cells #[.int .u8 (p : Int), .int .u8 (q : Int), .int .u8 (r : Int), .int .u8 (s : Int)] 37)) := (Below.refl _ _).alloc (Nat.le_refl _) _
  have hA1 := hA0.below hst1
  have hb1 := Bt hst0 hst1
  have hg1 := hg.below hb1
  have hm1 := hm.below hb1
  clear hmv hmy hmn hCM hCT hCP hCL lA lB oB hf hmB hstep k6 k6b hA0 hst0 hst1 hl hb hp hq hr hs
  generalize textT p q r s = T at *
  generalize (mapL p q r s).map u8V = LB at *
  generalize hLA : b.map u8V = LA at *
  clear hLA
  go_enter Tryd.func4, Tryd.ntmps4
  go_wp2_with fail
  refine (speaks12 _ hg1 hm1).mono ?_
  rintro e w1 ⟨rfl, hb2⟩
  have hA2 := hA1.below hb2
  have hV2 := hV0.below hb2
  have hb02 := Bt hb1 hb2
  clear hA1 hV0 hb2 hb1 hg1 hm1
  have c10 := HF.out _ hA2 10 (by omega)
  have c11 := HF.out _ hA2 11 (by omega)
  go_upto_region 3 with (fail)
  go_cut [5] (fun v wx => v = .bool (decide (b.getD 10 0 = 255) && decide (b.getD 11 0 = 255)) ∧ w1 = wx)
  case first =>
    generalize b.getD 10 0 = y10 at *
    generalize b.getD 11 0 = y11 at *
    by_cases h10 : y10 = 255
    · have e10 : ((y10 : Int) == 255) = true := by rw [beq_iff_eq]; omega
      by_cases h11 : y11 = 255
      · have e11 : ((y11 : Int) == 255) = true := by rw [beq_iff_eq]; omega
        have ev : Hid ((Value.bool true) = .bool (decide (y10 = 255) && decide (y11 = 255))) := Lib.hid (by simp [h10, h11])
        clear h10 h11
        go_wp2_with fail
        go_meet
        exact ⟨ev.out, rfl⟩
      · have e11 : ((y11 : Int) == 255) = false := by rw [beq_eq_false_iff_ne]; omega
        have ev : Hid ((Value.bool false) = .bool (decide (y10 = 255) && decide (y11 = 255))) := Lib.hid (by simp [h11])
        clear h10 h11
        go_wp2_with fail
        go_meet
        exact ⟨ev.out, rfl⟩
    · have e10 : ((y10 : Int) == 255) = false := by rw [beq_eq_false_iff_ne]; omega
      have ev : Hid ((Value.bool false) = .bool (decide (y10 = 255) && decide (y11 = 255))) := Lib.hid (by simp [h10])
      clear h10
      go_wp2_with fail
      go_meet
      exact ⟨ev.out, rfl⟩
  case rest =>
    obtain ⟨rfl, rfl⟩ := hcut
    clear c10 c11
    generalize (decide (b.getD 10 0 = 255) && decide (b.getD 11 0 = 255)) = y at *
    go_wp2_with fail
    go_loopw [5, 6] (fun v x wr => ∃ i : Nat, i ≤ 10 ∧ x = .int .i64 i ∧ v = .bool ((b.take i).all (fun x => decide (x = 0)) && y) ∧ Below w1.heap.size w1 wr) (fun _ x _ => 10 - (intOf x).toNat)
    case atStart => exact ⟨0, Nat.zero_le _, rfl, by simp, Below.refl _ _⟩
    case round =>
      obtain ⟨i, hil, rfl, rfl, hbr⟩ := hrel
      by_cases hlt : i < 10
      · have hiI : (i : Int) < 10 := by omega
        have hiI2 : (i : Int) < 16 := by omega
        have ci := HF.out _ (hA2.below hbr) i (by omega)
        have hv : ((b.take (i + 1)).all (fun x => decide (x = 0)) && y) = (((b.take i).all (fun x => decide (x = 0)) && y) && decide (b.getD i 0 = 0)) := by
          rw [HST.out i hlt]
          cases (b.take i).all (fun x => decide (x = 0)) <;> cases y <;> simp
        have HV := Lib.hid hv
        clear hv
        generalize ((b.take i).all (fun x => decide (x = 0)) && y) = v0 at *
        generalize b.getD i 0 = yi at *
        cases v0 with
        | false =>
          go_wp2_with fail
          go_roundw
          case rel => exact ⟨i + 1, by omega, by go_num, by rw [HV.out]; rfl, hbr⟩
          case measure => simp [intOf]; omega
        | true =>
          by_cases h0 : yi = 0
          · have e0 : ((yi : Int) == 0) = true := by rw [beq_iff_eq]; omega
            have HV2 := Lib.hid (show ((b.take (i + 1)).all (fun x => decide (x = 0)) && y) = true by rw [HV.out]; simp [h0])
            clear h0
            go_wp2_with fail
            go_roundw
            case rel => exact ⟨i + 1, by omega, by go_num, by rw [HV2.out], hbr⟩
            case measure => simp [intOf]; omega
          · have e0 : ((yi : Int) == 0) = false := by rw [beq_eq_false_iff_ne]; omega
            have HV2 := Lib.hid (show ((b.take (i + 1)).all (fun x => decide (x = 0)) && y) = false by rw [HV.out]; simp [h0])
            clear h0
            go_wp2_with fail
            go_roundw
            case rel => exact ⟨i + 1, by omega, by go_num, by rw [HV2.out], hbr⟩
            case measure => simp [intOf]; omega
      · obtain rfl : i = 10 := by omega
        rw [← HMB.out]
        have hA3 := hA2.below hbr
        have hV3 := hV2.below hbr
        have hb03 := Bt hb02 hbr
        have r1 := hA3.range6
        clear hA2 hV2 hb02 hbr HMB HST
        cases hmb : mapB b
        · have CM1 : Hid (∀ W, Calls Tryd.prog 11 #[.agg LA.toArray] W fun e w' => e = .returned (.tuple #[.agg #[.int .u8 m0, .int .u8 m1, .int .u8 m2, .int .u8 m3], .bool false]) ∧ Below W.heap.size W w') := hmb ▸ CM
          clear CM
          obtain ⟨rfl, rfl, rfl, rfl⟩ := HMN.out hmb
          have q := fun W => neq_v4 0 0 0 0 0 0 0 0 W
          clear HMN HMY hmb
          simp only [beq_self_eq_true, Bool.and_self, Bool.not_true] at q
          go_wp2_with (refine wpList_load_mid rfl _ _ rfl _ _ rfl LA _ r1 U6.out rfl K6.out ?_)
          refine (CM1.out _).mono ?_
          rintro e w4 ⟨rfl, hb4⟩
          have hst4 : Below w4.heap.size w4 (w4.alloc (.cells #[.int .u8 (0 : Int), .int .u8 (0 : Int), .int .u8 (0 : Int), .int .u8 (0 : Int)] 37)) := (Below.refl _ _).alloc (Nat.le_refl _) _
          have hM := V4At.made w4 (0 : Int) (0 : Int) (0 : Int) (0 : Int)
          have hA4 := hA3.below (Bt hb4 hst4)
          have hV4 := hV3.below (Bt hb4 hst4)
          have hb04 := Bt hb03 (Bt hb4 hst4)
          clear r1 hA3 hV3 hb03 hb4 hst4
          go_upto_region 9 with (fail)
          generalize w4.alloc (.cells #[.int .u8 (0 : Int), .int .u8 (0 : Int), .int .u8 (0 : Int), .int .u8 (0 : Int)] 37) = w5 at *
          generalize w4.heap.size = n4 at *
          have hML := hM.load
          obtain ⟨f0, f1, f2, f3⟩ := hM.cells
          go_cut [66] (fun v wx => v = .bool false ∧ w5 = wx)
          case first =>
            go_wp2_with fail
            go_meet
            exact ⟨rfl, rfl⟩
          case rest =>
            obtain ⟨rfl, rfl⟩ := hcut
            clear q hM hML f0 f1 f2 f3 HF CM1
            have hVL := hV4.load
            obtain ⟨g0, g1, g2, g3⟩ := hV4.cells
            go_wp2_with fail
            refine (CT.out _).mono ?_
            rintro e w6 ⟨rfl, hb6⟩
            have hV6 := hV4.below hb6
            have hb06 := Bt hb04 hb6
            have hg6 := hg.below hb06
            have hm6 := hm.below hb06
            clear hVL g0 g1 g2 g3 hV4 hb6 hb04 hA4
            go_wp2_with fail
            refine (CP.out _ hg6 hm6).mono ?_
            rintro e w7 ⟨rfl, hb7⟩
            have lB := LBL.out
            have hst7 : Below w7.heap.size w7 (w7.alloc (.cells LB.toArray 23)) := (Below.refl _ _).alloc (Nat.le_refl _) _
            have hsc : (storeCells ⟨w7.heap.size, 0, none⟩ LB 0).run Tryd.prog (w7.alloc (.cells #[.int .u8 0, .int .u8 0, .int .u8 0, .int .u8 0, .int .u8 0, .int .u8 0, .int .u8 0, .int .u8 0, .int .u8 0, .int .u8 0, .int .u8 0, .int .u8 0, .int .u8 0, .int .u8 0, .int .u8 0, .int .u8 0] 23)) = .ok () (w7.alloc (.cells LB.toArray 23)) := by
              have := run_storeCells_new (P := Tryd.prog) w7 23 #[.int .u8 0, .int .u8 0, .int .u8 0, .int .u8 0, .int .u8 0, .int .u8 0, .int .u8 0, .int .u8 0, .int .u8 0, .int .u8 0, .int .u8 0, .int .u8 0, .int .u8 0, .int .u8 0, .int .u8 0, .int .u8 0] LB.toArray (by rw [size_v6]; simp [lB]) (by simp [lB]) OB.out
              simpa using this
            have hB7 : ArrAt (w7.alloc (.cells LB.toArray 23)) w7.heap.size 23 LB := heap_alloc_new w7 _
            have rB := hB7.range6
            have hV7 := hV6.below (Bt hb7 hst7)
            have hb07 := Bt hb06 (Bt hb7 hst7)
            clear hg6 hm6 hV6 hb06 hb7 hst7 LBL OB CP CT hB7
            go_wp2_with (refine wpList_load_mid rfl _ _ rfl _ _ rfl LB _ rB U6.out rfl KB.out ?_)
            refine (CL.out _).mono ?_
            rintro e w8 ⟨rfl, hb8⟩
            have hst8 : Below w8.heap.size w8 (w8.alloc (.cells #[.int .u8 (p : Int), .int .u8 (q : Int), .int .u8 (r : Int), .int .u8 (s : Int)] 37)) := (Below.refl _ _).alloc (Nat.le_refl _) _
            have hV8 := hV7.below (Bt hb8 hst8)
            have hb08 := Bt hb07 (Bt hb8 hst8)
            have hVL := hV8.load
            obtain ⟨g0, g1, g2, g3⟩ := hV8.cells
            have hM8 := V4At.made w8 p q r s
            have hML8 := hM8.load
            obtain ⟨f0, f1, f2, f3⟩ := hM8.cells
            have qe := fun W => eql_v4 p q r s p q r s W
            simp only [beq_self_eq_true, Bool.and_self] at qe
            clear hV8 hV7 hb8 hb07 hst8 hsc rB CL KB hM8
            go_wp2_with fail
            go_ret
            exact ⟨rfl, hb08⟩
        · have CM1 : Hid (∀ W, Calls Tryd.prog 11 #[.agg LA.toArray] W fun e w' => e = .returned (.tuple #[.agg #[.int .u8 m0, .int .u8 m1, .int .u8 m2, .int .u8 m3], .bool true]) ∧ Below W.heap.size W w') := hmb ▸ CM
          clear CM
          obtain ⟨rfl, rfl, rfl, rfl⟩ := HMY.out hmb
          have e12 := HF.out _ hA3 12 (by omega)
          have e13 := HF.out _ hA3 13 (by omega)
          have e14 := HF.out _ hA3 14 (by omega)
          have e15 := HF.out _ hA3 15 (by omega)
          generalize b.getD 12 0 = y0 at *
          generalize b.getD 13 0 = y1 at *
          generalize b.getD 14 0 = y2 at *
          generalize b.getD 15 0 = y3 at *
          have q := fun W => neq_v4 y0 y1 y2 y3 y0 y1 y2 y3 W
          clear HMN HMY hmb
          simp only [beq_self_eq_true, Bool.and_self, Bool.not_true] at q
          go_wp2_with (refine wpList_load_mid rfl _ _ rfl _ _ rfl LA _ r1 U6.out rfl K6.out ?_)
          refine (CM1.out _).mono ?_
          rintro e w4 ⟨rfl, hb4⟩
          have hst4 : Below w4.heap.size w4 (w4.alloc (.cells #[.int .u8 (y0 : Int), .int .u8 (y1 : Int), .int .u8 (y2 : Int), .int .u8 (y3 : Int)] 37)) := (Below.refl _ _).alloc (Nat.le_refl _) _
          have hM := V4At.made w4 (y0 : Int) (y1 : Int) (y2 : Int) (y3 : Int)
          have hA4 := hA3.below (Bt hb4 hst4)
          have hV4 := hV3.below (Bt hb4 hst4)
          have e12' := ((Bt hb4 hst4).cell (p := ⟨w.heap.size, 12, none⟩) hA3.lt).trans e12
          have e13' := ((Bt hb4 hst4).cell (p := ⟨w.heap.size, 13, none⟩) hA3.lt).trans e13
          have e14' := ((Bt hb4 hst4).cell (p := ⟨w.heap.size, 14, none⟩) hA3.lt).trans e14
          have e15' := ((Bt hb4 hst4).cell (p := ⟨w.heap.size, 15, none⟩) hA3.lt).trans e15
          clear e12 e13 e14 e15
          have hb04 := Bt hb03 (Bt hb4 hst4)
          clear r1 hA3 hV3 hb03 hb4 hst4
          go_upto_region 9 with (fail)
          generalize w4.alloc (.cells #[.int .u8 (y0 : Int), .int .u8 (y1 : Int), .int .u8 (y2 : Int), .int .u8 (y3 : Int)] 37) = w5 at *
          generalize w4.heap.size = n4 at *
          have hML := hM.load
          obtain ⟨f0, f1, f2, f3⟩ := hM.cells
          go_cut [66] (fun v wx => v = .bool false ∧ w5 = wx)
          case first =>
            go_wp2_with fail
            go_meet
            exact ⟨rfl, rfl⟩
          case rest =>
            obtain ⟨rfl, rfl⟩ := hcut
            clear q hM hML f0 f1 f2 f3 HF CM1 e12' e13' e14' e15'
            have hVL := hV4.load
            obtain ⟨g0, g1, g2, g3⟩ := hV4.cells
            go_wp2_with fail
            refine (CT.out _).mono ?_
            rintro e w6 ⟨rfl, hb6⟩
            have hV6 := hV4.below hb6
            have hb06 := Bt hb04 hb6
            have hg6 := hg.below hb06
            have hm6 := hm.below hb06
            clear hVL g0 g1 g2 g3 hV4 hb6 hb04 hA4
            go_wp2_with fail
            refine (CP.out _ hg6 hm6).mono ?_
            rintro e w7 ⟨rfl, hb7⟩
            have lB := LBL.out
            have hst7 : Below w7.heap.size w7 (w7.alloc (.cells LB.toArray 23)) := (Below.refl _ _).alloc (Nat.le_refl _) _
            have hsc : (storeCells ⟨w7.heap.size, 0, none⟩ LB 0).run Tryd.prog (w7.alloc (.cells #[.int .u8 0, .int .u8 0, .int .u8 0, .int .u8 0, .int .u8 0, .int .u8 0, .int .u8 0, .int .u8 0, .int .u8 0, .int .u8 0, .int .u8 0, .int .u8 0, .int .u8 0, .int .u8 0, .int .u8 0, .int .u8 0] 23)) = .ok () (w7.alloc (.cells LB.toArray 23)) := by
              have := run_storeCells_new (P := Tryd.prog) w7 23 #[.int .u8 0, .int .u8 0, .int .u8 0, .int .u8 0, .int .u8 0, .int .u8 0, .int .u8 0, .int .u8 0, .int .u8 0, .int .u8 0, .int .u8 0, .int .u8 0, .int .u8 0, .int .u8 0, .int .u8 0, .int .u8 0] LB.toArray (by rw [size_v6]; simp [lB]) (by simp [lB]) OB.out
              simpa using this
            have hB7 : ArrAt (w7.alloc (.cells LB.toArray 23)) w7.heap.size 23 LB := heap_alloc_new w7 _
            have rB := hB7.range6
            have hV7 := hV6.below (Bt hb7 hst7)
            have hb07 := Bt hb06 (Bt hb7 hst7)
            clear hg6 hm6 hV6 hb06 hb7 hst7 LBL OB CP CT hB7
            go_wp2_with (refine wpList_load_mid rfl _ _ rfl _ _ rfl LB _ rB U6.out rfl KB.out ?_)
            refine (CL.out _).mono ?_
            rintro e w8 ⟨rfl, hb8⟩
            have hst8 : Below w8.heap.size w8 (w8.alloc (.cells #[.int .u8 (p : Int), .int .u8 (q : Int), .int .u8 (r : Int), .int .u8 (s : Int)] 37)) := (Below.refl _ _).alloc (Nat.le_refl _) _
            have hV8 := hV7.below (Bt hb8 hst8)
            have hb08 := Bt hb07 (Bt hb8 hst8)
            have hVL := hV8.load
            obtain ⟨g0, g1, g2, g3⟩ := hV8.cells
            have hM8 := V4At.made w8 p q r s
            have hML8 := hM8.load
            obtain ⟨f0, f1, f2, f3⟩ := hM8.cells
            have qe := fun W => eql_v4 p q r s p q r s W
            simp only [beq_self_eq_true, Bool.and_self] at qe
            clear hV8 hV7 hb8 hb07 hst8 hsc rB CL KB hM8
            go_wp2_with fail
            go_ret
            exact ⟨rfl, hb08⟩
end Go.Proofs.YtameipbnobaoeaaDoor

/- What HexadTexts' card asks: sixteen bytes that came in; the world's shape gives the library's variable. -/
namespace Go.Proofs.YtameipbnobaoeaaDoor
open Go.ChangeShapes Go.WideShapes Go.ChangeAt Go.RowKit

section
variable {H : Type} {enc : TypeId × Value → H}
theorem handed_and_shaped {a : Assume} {C : Checked} {os : Os} {f : FuncId} {fn : Func} {s : ChangeSpec} {conds : List PathCond} {apart fresh handsOn again : Bool} {X : World → Array Value → Prop}
    (hX : ∀ (w w' : World) (args : Array Value), w.heap = w'.heap → X w args → X w' args)
    (own : ownKnob C.prog.godebug = none) (started : os.Started) (noInit : C.prog.inits.idxOf? f = none) (hfn : C.prog.funcs[f]? = some fn)
    (witness : ∃ (w : World) (tape : Tape) (i : Input), w.os = os ∧ (w.forCall tape i).Shaped C.prog ∧ i.vars = [] ∧ Input.okWide C.prog (w.forCall tape i) .any w.heap.size f i ∧
      ((s.pre enc C.prog fn conds apart (w.forCall tape i).memory i.args ∧ X (w.forCall tape i).memory i.args) ∧ sizedMet enc C.prog fn (OpenSpec.ofChange s) apart (w.forCall tape i).memory i.args) ∧ a.holds C.prog (lone (Frame.enter C.prog f i.args .normal) [] (w.forCall tape i)))
    (contract : ∀ (W : World) (base : Nat) (args : Array Value) (ds gs : List (DataW H)) (before : List MemPlace),
      (∀ (j : Nat) t v, fn.params[j]? = some t → args[j]? = some v → Value.okWide C.prog W .any base t v) →
      DataW.Whole enc C.prog fn.params.toList s.vars apart W args.toList ds gs before →
      conds.all (PathCond.test C.prog ⟨fn.params.toList, ds, s.plain.varTypes C.prog, gs⟩) = true →
      (DataW.weightsEach C.prog (fn.params.toList ++ s.plain.varTypes C.prog) (ds ++ gs)).all (· ≤ reachBytes) = true → X W args → W.ShapedOpen C.prog →
      a.holds C.prog (lone (Frame.enter C.prog f args .normal) [] W) →
      Calls C.prog f args W fun e W' => ∃ v, e = .returned v ∧ s.post enc C.prog fn apart fresh handsOn again W args v W') :
    ReturnsInHanded a C os f .any (fun w args => (s.pre enc C.prog fn conds apart w args ∧ X w args) ∧ sizedMet enc C.prog fn (OpenSpec.ofChange s) apart w args) (s.post enc C.prog fn apart fresh handsOn again) := by
  refine returnsInHanded_of_calls own started noInit witness ?_
  intro w tape i _ hsh _ hok hpre hholds
  obtain ⟨_, _, _, fn', hfn', _, _, _, _, hval⟩ := hok
  have e : fn' = fn := Option.some.inj (hfn'.symm.trans hfn)
  subst e
  obtain ⟨⟨⟨ds, gs, before, hw, hc⟩, hx⟩, hz⟩ := hpre
  have hw' := DataW.Whole.of_heap (w' := w.forCall tape i) (by rfl) hw
  refine (contract (w.forCall tape i) w.heap.size i.args ds gs before hval hw' hc (hz.weights hw) (hX _ _ _ (by rfl) hx) hsh hholds).mono fun e W' ⟨v, he, hp⟩ => ?_
  subst he
  exact ChangeSpec.post_blind hp
end
theorem maxAt_of_shape {W : World} (h : W.ShapedOpen Tryd.prog) : MaxAt W :=
  cell_of_shapedOpen_int (t := 3) (zero := #[.int .i64 0]) h (of_decide_eq_true (by kernel_rfl)) (by kernel_rfl) (by kernel_rfl) (by kernel_rfl) (by kernel_rfl) (by kernel_rfl)
theorem mapM_mem {α β : Type} (f : α → Option β) : ∀ (l : List α) {ys : List β}, l.mapM f = some ys → ∀ x ∈ l, ∃ y, f x = some y := by
  intro l
  induction l with
  | nil => intro ys _ x hx; cases hx
  | cons a l ih =>
    intro ys h x hx
    rw [List.mapM_cons] at h
    cases ha : f a with
    | none => rw [ha] at h; cases h
    | some y =>
      rw [ha] at h
      cases hl : l.mapM f with
      | none => rw [hl] at h; cases h
      | some zs =>
        rcases List.mem_cons.1 hx with rfl | hx
        · exact ⟨y, ha⟩
        · exact ih hl x hx
theorem u8_byte {x : Int} (h : (Lit.int .u8 x).wf = true) : ∃ n : Nat, n < 256 ∧ x = (n : Int) := by
  simp [Lit.wf, IntKind.min, IntKind.max, IntKind.signed, IntKind.bits] at h
  exact ⟨x.toNat, by omega, by omega⟩
theorem bytes_back : ∀ l : List Value, (∀ v ∈ l, ∃ n : Nat, n < 256 ∧ v = u8V n) → ∃ b : List Nat, l = b.map u8V ∧ ∀ x ∈ b, x < 256 := by
  intro l
  induction l with
  | nil => intro _; exact ⟨[], rfl, fun x hx => by cases hx⟩
  | cons v l ih =>
    intro h
    obtain ⟨n, hn, rfl⟩ := h v (List.mem_cons_self ..)
    obtain ⟨b, rfl, hb⟩ := ih fun v hv => h v (List.mem_cons_of_mem _ hv)
    exact ⟨n :: b, rfl, fun x hx => by
      rcases List.mem_cons.1 hx with rfl | hx
      · exact hn
      · exact hb x hx⟩
theorem open_v6 {H : Type} {enc : TypeId × Value → H} {w : World} {base : Nat} {spare : Nat → Bool} {held : Bool} {fuel : Nat} {l : List Value} {x : DataW H × List MemPlace} (hl : l.length = 16)
    (h : DataW.trod enc Tryd.prog w base spare held fuel 23 l = some x) : ∃ b : List Nat, l = b.map u8V ∧ ∀ x ∈ b, x < 256 := by
  cases fuel with
  | zero => simp [DataW.trod] at h
  | succ n =>
    unfold DataW.trod at h
    rw [show Tryd.prog.underlying 23 = some (.array 16 5) from Tryd.underlying23] at h
    simp only at h
    split at h
    · obtain ⟨ys, hm, _⟩ := Option.map_eq_some_iff.1 h
      refine bytes_back l fun v hv => ?_
      obtain ⟨i, hi, rfl⟩ := List.getElem_of_mem hv
      obtain ⟨y, hy⟩ := mapM_mem _ _ hm i (List.mem_range.2 (by omega))
      rw [show Tryd.prog.cellsOf 5 = 1 by kernel_rfl, Nat.mul_one, List.drop_eq_getElem_cons hi] at hy
      simp only [List.take_succ_cons, List.take_zero] at hy
      obtain ⟨z, e, _, hw⟩ := DataW.trod_int Tryd.underlying5 hy
      obtain ⟨n, hn, rfl⟩ := u8_byte hw
      exact ⟨n, hn, by simpa [u8V] using e⟩
    · cases h
end Go.Proofs.YtameipbnobaoeaaDoor

/- What a row's list of package variables gives: errors.errorType, the tables of unicode/utf8. A world that holds them. -/
namespace Go.Proofs.YtameipbnobaoeaaDoor
open Go.ChangeShapes Go.WideShapes Go.RowKit

/-- The tables of unicode/utf8, as their initialisers lay them. -/
def Utf8Laid (w : World) : Prop := Lib.Utf8Tabs 2 3 w
theorem Utf8Laid.below {w w' : World} (h : Utf8Laid w) (hb : Below w.heap.size w w') : Utf8Laid w' :=
  ⟨fun c hc => (hb.cell (World.block_lt_of_cell? w _ (h.1 c hc))).trans (h.1 c hc),
    fun i hi => ⟨(hb.cell (World.block_lt_of_cell? w _ (h.2 i hi).1)).trans (h.2 i hi).1, (hb.cell (World.block_lt_of_cell? w _ (h.2 i hi).2)).trans (h.2 i hi).2⟩⟩
theorem Utf8Laid.drewN {w : World} (h : Utf8Laid w) (n : Nat) : Utf8Laid (w.drewN n) := h

def u8ren : Go.Shelf.Ren := ⟨fun n => n, fun | 5 => 5 | 119 => 139 | 138 => 141 | 139 => 142 | n => n, fun | 3 => 2 | 4 => 3 | n => n⟩
theorem u8types : U8Types Tryd.prog u8ren := { t5 := Tryd.underlying5, t119 := Tryd.underlying139, t138 := Tryd.underlying141, t139 := Tryd.underlying142 }
theorem u8extra : U8Extra Tryd.prog u8ren := { n3 := by kernel_rfl, n4 := by kernel_rfl, y3 := by kernel_rfl, y4 := by kernel_rfl, c5 := by kernel_rfl, c119 := by kernel_rfl, c138 := by kernel_rfl }
theorem u8first : Lib.firstData = Rows.laid_unicode_utf8_first := by kernel_rfl
theorem u8accept : Lib.acceptData = Rows.laid_unicode_utf8_acceptRanges := by kernel_rfl
noncomputable def laidWorld (os : Os) : World :=
  let w0 := World.holding Tryd.prog os ⟨#[], #[], []⟩
  let h1 := w0.heap.modify 1 fun
      | .cells _ t frozen => .cells #[.iface 125 (.agg #[.pointer (some ⟨4, 29, none⟩)])] t frozen
      | o => o
  let h2 := h1.modify 2 fun
      | .cells _ t frozen => .cells (Lib.firstTab.map (Value.int .u8)).toArray t frozen
      | o => o
  let h3 := h2.modify 3 fun
      | .cells _ t frozen => .cells ((List.range 16).flatMap fun i => [Value.int .u8 (Lib.accLo i : Nat), Value.int .u8 (Lib.accHi i : Nat)]).toArray t frozen
      | o => o
  { w0 with heap := h3 }
end Go.Proofs.YtameipbnobaoeaaDoor

/- The walk of HexadMapped, as the card asks it. -/
namespace Go.Proofs.YtameipbnobaoeaaDoor
open Go.RowKit

theorem u8_natM {x : Int} (h : (Lit.int .u8 x).wf = true) : ∃ n : Nat, n < 256 ∧ x = (n : Int) := by
  simp [Lit.wf, IntKind.min, IntKind.max, IntKind.signed, IntKind.bits] at h
  exact ⟨x.toNat, by omega, by omega⟩
theorem walkHexadMapped (b : List Nat) (x0 x1 x2 x3 : Int) (w : World) (hg : Handle w) (_ : Utf8Laid w) (hm : MaxAt w) (hl : b.length = 16) (hb : ∀ x ∈ b, x < 256) (h0 : (Lit.int .u8 x0).wf = true) (h1 : (Lit.int .u8 x1).wf = true) (h2 : (Lit.int .u8 x2).wf = true) (h3 : (Lit.int .u8 x3).wf = true) :
    Calls Tryd.prog 4 #[.agg (b.map u8V).toArray, .agg #[.int .u8 x0, .int .u8 x1, .int .u8 x2, .int .u8 x3]] w fun e w' => e = .returned (.bool true) ∧ Below w.heap.size w w' := by
  obtain ⟨p, hp, rfl⟩ := u8_natM h0
  obtain ⟨q, hq, rfl⟩ := u8_natM h1
  obtain ⟨r, hr, rfl⟩ := u8_natM h2
  obtain ⟨s, hs, rfl⟩ := u8_natM h3
  exact mapped_walk12 b p q r s w hl hb hp hq hr hs hg hm
end Go.Proofs.YtameipbnobaoeaaDoor
