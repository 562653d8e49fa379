/- The walk of WireJudges. -/
import Derived.Test.YteabhblbefglpaaDoorWireJudgesM12
import Derived.Test.YteabhblbefglpaaDoorWireJudgesM16
import Derived.Deep.RegionHeld
import Derived.Deep.Strs
import Derived.OpenShut

namespace Go.Proofs.YteabhblbefglpaaDoor
open Go.RowKit

theorem info_u8J : (Tryd.prog.info? 5).map (fun i => (i.zero, i.size, i.bytes)) = some (some (.int .u8 0), 1, 1) := by kernel_rfl
theorem make_bytesJ (n : Nat) (hn : n ≤ 16777216) (W : World) : (Instr.makeSlice 23 (.int .i64 (n : Int)) (.int .i64 (n : Int))).run Tryd.prog W = .ok (.slice (some ⟨W.heap.size, 0, none⟩) n n) (W.alloc (.cells (madeCells #[.int .u8 0] n) 5)) := by
  obtain ⟨i, hi, hz, hsize, hby⟩ := info_parts info_u8J
  exact run_make_row 23 5 i (.int .u8 0) Tryd.underlying23 hi hz hsize rfl .i64 .i64 n (by rw [hby]; omega) (by omega) W
section
variable {w w' : World} {g : Nat} {id st : Int} {rd tm : Bool} {ty ca : ByteArray} {pa : Option Addr} {n c : Nat}
theorem RespAt.cells7 (h : RespAt w g id st rd tm ty ca pa n c) : w.cell? ⟨g, 0, none⟩ = some (.int .u64 id) ∧ w.cell? ⟨g, 1, none⟩ = some (.int .i64 st) ∧ w.cell? ⟨g, 2, none⟩ = some (.bool rd) ∧ w.cell? ⟨g, 3, none⟩ = some (.bool tm) ∧ w.cell? ⟨g, 4, none⟩ = some (.string ty) ∧ w.cell? ⟨g, 5, none⟩ = some (.string ca) ∧ w.cell? ⟨g, 6, none⟩ = some (.slice pa n c) :=
  ⟨(h.cell 0).trans rfl, (h.cell 1).trans rfl, (h.cell 2).trans rfl, (h.cell 3).trans rfl, (h.cell 4).trans rfl, (h.cell 5).trans rfl, (h.cell 6).trans rfl⟩
theorem RespAt.setBody (h : RespAt w g id st rd tm ty ca pa n c) (pa' : Option Addr) (n' c' : Nat) : RespAt (w.setCell ⟨g, 6, none⟩ (.slice pa' n' c')) g id st rd tm ty ca pa' n' c' := by
  unfold RespAt at h ⊢; simp [World.setCell, Array.getElem?_modify, h]
theorem RespAt.drew (h : RespAt w g id st rd tm ty ca pa n c) : RespAt w.drew g id st rd tm ty ca pa n c := h
end
theorem and_255 (a : Int) : 0 ≤ bits .and .i64 a 255 ∧ bits .and .i64 a 255 ≤ 255 := by
  show 0 ≤ IntKind.i64.wrap ((BitVec.ofInt 64 a &&& BitVec.ofInt 64 255).toNat : Int) ∧ IntKind.i64.wrap ((BitVec.ofInt 64 a &&& BitVec.ofInt 64 255).toNat : Int) ≤ 255
  have h : (BitVec.ofInt 64 a &&& BitVec.ofInt 64 255).toNat ≤ 255 := by
    rw [BitVec.toNat_and]
    exact Nat.le_trans Nat.and_le_right (by decide)
  rw [IntKind.wrap_i64]
  omega

theorem lit_cell (W : World) (M : Int) (h0 : 0 ≤ M) (h1 : M < 5) : ∃ nn : Nat, nn ≤ 2000000 ∧ (W.alloc (.cells #[.int .i64 0, .int .i64 131072, .int .i64 131073, .int .i64 1048576, .int .i64 1048577] 3)).cell? ⟨W.heap.size, M.toNat, none⟩ = some (.int .i64 (nn : Int)) := by
  have : M = 0 ∨ M = 1 ∨ M = 2 ∨ M = 3 ∨ M = 4 := by omega
  rcases this with rfl | rfl | rfl | rfl | rfl
  · exact ⟨0, by omega, by rw [World.cell?_alloc_at _ _ _ _ rfl]; rfl⟩
  · exact ⟨131072, by omega, by rw [World.cell?_alloc_at _ _ _ _ rfl]; rfl⟩
  · exact ⟨131073, by omega, by rw [World.cell?_alloc_at _ _ _ _ rfl]; rfl⟩
  · exact ⟨1048576, by omega, by rw [World.cell?_alloc_at _ _ _ _ rfl]; rfl⟩
  · exact ⟨1048577, by omega, by rw [World.cell?_alloc_at _ _ _ _ rfl]; rfl⟩
set_option maxHeartbeats 6400000 in
set_option maxRecDepth 100000 in
theorem wjudges_walk (apple : Bool) (id st : Int) (rd tm : Bool) (ty ca : ByteArray) (pa : Option Addr) (n c : Nat) (size : Int) (w : World) (hg : Handle w) (hty : ty.size ≤ maxLen) (hn : n ≤ maxLen) :
    Calls Tryd.prog 3 #[.bool apple, .agg #[.int .u64 id, .int .i64 st, .bool rd, .bool tm, .string ty, .string ca, .slice pa n c], .int .i64 size] w fun e w' => e = .returned (.bool true) ∧ Below w.heap.size w w' := by
  have hst : Below w.heap.size w (w.alloc (.cells #[.int .u64 id, .int .i64 st, .bool rd, .bool tm, .string ty, .string ca, .slice pa n c] 25)) := (Below.refl _ _).alloc (Nat.le_refl _) _
  have hr0 := RespAt.new (w := w) (id := id) (st := st) (rd := rd) (tm := tm) (ty := ty) (ca := ca) (pa := pa) (n := n) (c := c)
  have cSp := Lib.hid (speaks26 _ (hg.below hst))
  unfold maxLen at hty hn
  by_cases h1 : 1500 < ty.size
  · have h1I : (ty.size : Int) > 1500 := by omega
    go_enter Tryd.func3, Tryd.ntmps3
    go_wp2_with fail
    refine cSp.out.mono ?_
    rintro e w1 ⟨rfl, hb1⟩
    have hr1 := hr0.below hb1
    have hb01 := Bt hst hb1
    obtain ⟨c0, c1, c2, c3, c4, c5, c6⟩ := hr1.cells7
    clear hr0 hr1 hst hb1
    go_wp2_with fail
    go_ret
    exact ⟨rfl, hb01⟩
  have h1I : ¬ (ty.size : Int) > 1500 := by omega
  by_cases h2 : 2000000 < n
  · have h2I : (n : Int) > 2000000 := by omega
    go_enter Tryd.func3, Tryd.ntmps3
    go_wp2_with fail
    refine cSp.out.mono ?_
    rintro e w1 ⟨rfl, hb1⟩
    have hr1 := hr0.below hb1
    have hb01 := Bt hst hb1
    obtain ⟨c0, c1, c2, c3, c4, c5, c6⟩ := hr1.cells7
    clear hr0 hr1 hst hb1
    go_wp2_with fail
    go_ret
    exact ⟨rfl, hb01⟩
  have h2I : ¬ (n : Int) > 2000000 := by omega
  have cJ' : ∀ W, Calls Tryd.prog 14 #[.bool apple, .agg #[.int .u64 id, .int .i64 st, .bool rd, .bool tm, .string ty, .string ca, .slice pa n c]] W fun e w' => Below W.heap.size W w' ∧ ∃ v, e = .returned v ∧ IsErr w' v (judgeN apple st rd tm ty n) 0 := fun W => wire_Judge apple id st rd tm ty ca pa n c W
  have cJ := Lib.hid cJ'
  have cR := Lib.hid (fun W => ref26_Judge apple id st rd tm ty ca pa n c W)
  have cJ2' : ∀ (q : Option Addr) (m d : Nat) W, Calls Tryd.prog 14 #[.bool apple, .agg #[.int .u64 id, .int .i64 st, .bool rd, .bool tm, .string ty, .string ca, .slice q m d]] W fun e w' => Below W.heap.size W w' ∧ ∃ v, e = .returned v ∧ IsErr w' v (judgeN apple st rd tm ty m) 0 := fun q m d W => wire_Judge apple id st rd tm ty ca q m d W
  have cJ2 := Lib.hid cJ2'
  have cR2 := Lib.hid (fun q m d W => ref26_Judge apple id st rd tm ty ca q m d W)
  clear cJ' cJ2' h1 h2
  generalize judgeN apple st rd tm ty n = k at *
  go_enter Tryd.func3, Tryd.ntmps3
  go_wp2_with fail
  refine cSp.out.mono ?_
  rintro e w1 ⟨rfl, hb1⟩
  have hr1 := hr0.below hb1
  have hb01 := Bt hst hb1
  obtain ⟨c0, c1, c2, c3, c4, c5, c6⟩ := hr1.cells7
  have hl := hr1.load
  clear hr0 hst hb1 cSp
  go_wp2_with fail
  refine (cJ.out _).mono ?_
  rintro e w2 ⟨hb2, v, rfl, hv⟩
  have hr2 := hr1.below hb2
  have hb02 := Bt hb01 hb2
  have hg2 := hg.below hb02
  clear hr1 hb01 hb2 c0 c1 c2 c3 c4 c5 c6 hl cJ
  have ek : ((k : Int) != (k : Int)) = false := by simp
  obtain ⟨hx0, hx1⟩ := and_255 size
  have HR := Lib.hid hr2
  have HV := Lib.hid hv
  have cK' : ∀ W, Below w2.heap.size w2 W → Calls Tryd.prog 15 #[v] W fun e w' => e = .returned (.int .i64 (k : Int)) ∧ Below W.heap.size W w' := fun W hb => fault_Kind v k 0 W (hg2.below hb) (HV.out.below hb)
  have cA' : k ≠ 0 → ∀ W, Below w2.heap.size w2 W → Calls Tryd.prog 17 #[v] W fun e w' => e = .returned (.int .i64 0) ∧ Below W.heap.size W w' := fun hk W hb => fault_At v k 0 W (hg2.below hb) (HV.out.below hb) hk
  have cK := Lib.hid cK'
  have cA := Lib.hid cA'
  clear cK' cA' hr2
  have hbs := Below.refl w2.heap.size w2
  have hmid : ∀ W, Below w2.heap.size w2 W → Below w.heap.size w W := fun W hb => Bt hb02 hb
  have HMID := Lib.hid hmid
  clear hmid
  -- the first comparison
  have hcase : (k = 0 ∧ v = .nilIface) ∨ (k ≠ 0 ∧ ∃ u, v = .iface 77 u) := by
    rcases hv with ⟨h, h'⟩ | ⟨h, i, hv⟩
    · exact .inl ⟨h, h'⟩
    · obtain ⟨u, rfl⟩ := hv.ne_nil
      exact .inr ⟨h, u, rfl⟩
  clear hv
  have hd := hbs.drew
  have hS : ∀ W, Below w2.heap.size w2 W → W.cell? ⟨w.heap.size, 0, none⟩ = some (.int .u64 id) ∧ W.cell? ⟨w.heap.size, 1, none⟩ = some (.int .i64 st) ∧ W.cell? ⟨w.heap.size, 2, none⟩ = some (.bool rd) ∧ W.cell? ⟨w.heap.size, 3, none⟩ = some (.bool tm) ∧ W.cell? ⟨w.heap.size, 4, none⟩ = some (.string ty) ∧ W.cell? ⟨w.heap.size, 5, none⟩ = some (.string ca) ∧ W.cell? ⟨w.heap.size, 6, none⟩ = some (.slice pa n c) ∧ Below w2.heap.size w2 W := fun W hb => by
    obtain ⟨c0, c1, c2, c3, c4, c5, c6⟩ := (HR.out.below hb).cells7
    exact ⟨c0, c1, c2, c3, c4, c5, c6, hb⟩
  have HS := Lib.hid hS
  clear hS
  rcases hcase with ⟨rfl, rfl⟩ | ⟨hk, u, rfl⟩
  · go_upto_region 6 with (fail)
    first
    | (go_region_held (fun W => W.cell? ⟨w.heap.size, 0, none⟩ = some (.int .u64 id) ∧ W.cell? ⟨w.heap.size, 1, none⟩ = some (.int .i64 st) ∧ W.cell? ⟨w.heap.size, 2, none⟩ = some (.bool rd) ∧ W.cell? ⟨w.heap.size, 3, none⟩ = some (.bool tm) ∧ W.cell? ⟨w.heap.size, 4, none⟩ = some (.string ty) ∧ W.cell? ⟨w.heap.size, 5, none⟩ = some (.string ca) ∧ W.cell? ⟨w.heap.size, 6, none⟩ = some (.slice pa n c) ∧ Below w2.heap.size w2 W) (first | assumption | exact HS.out _ (by assumption))
      (first
      | (go_at_call 15; refine (cK.out _ (by assumption)).mono ?_; rintro e w6 ⟨rfl, hk6⟩; have hk7 := Bt (by assumption) hk6; dsimp only)
      | (go_at_call 16; refine (cR.out _).mono ?_; rintro e w6 ⟨rfl, hk6⟩; have hk8 := Bt (by assumption) hk6; dsimp only)))
    | fail
    go_upto_region 8 with (fail)
    obtain ⟨nn, hnn, hcM⟩ := lit_cell w6 (bits .and .i64 size 255 % 5) (by omega) (by omega)
    have hmk := make_bytesJ nn (by omega)
    have hr6 := HR.out.below hk8
    have hfz := hr6.frozen 6
    have hra := (hr6.below ((Below.refl _ _).alloc (Nat.le_refl _) (.cells #[.int .i64 0, .int .i64 131072, .int .i64 131073, .int .i64 1048576, .int .i64 1048577] 3))).below ((Below.refl _ _).alloc (Nat.le_refl _) (.cells (madeCells #[.int .u8 0] nn) 5))
    obtain ⟨_, _, _, _, _, _, c6⟩ := hra.cells7
    have hfa := hra.frozen 6
    have hlt6 := hr6.lt
    have hb06 := HMID.out _ hk8
    have hw0 : w.heap.size ≤ (⟨w.heap.size, 6, none⟩ : Addr).block := Nat.le_refl _
    have hbS := hb06.setCell hw0 (.slice (some ⟨w6.heap.size + 1, 0, none⟩) nn nn)
    have hrS := hr6.setBody (some ⟨w6.heap.size + 1, 0, none⟩) nn nn
    have hb8 := (hbS.alloc hbS.size (.cells #[.int .i64 0, .int .i64 131072, .int .i64 131073, .int .i64 1048576, .int .i64 1048577] 3)).alloc (hbS.alloc hbS.size (.cells #[.int .i64 0, .int .i64 131072, .int .i64 131073, .int .i64 1048576, .int .i64 1048577] 3)).size (.cells (madeCells #[.int .u8 0] nn) 5)
    have hr8 := (hrS.below ((Below.refl _ _).alloc (Nat.le_refl _) (.cells #[.int .i64 0, .int .i64 131072, .int .i64 131073, .int .i64 1048576, .int .i64 1048577] 3))).below ((Below.refl _ _).alloc (Nat.le_refl _) (.cells (madeCells #[.int .u8 0] nn) 5))
    clear hbS hrS hw0 hb06
    go_upto_region 9 with (fail)
    generalize hq8 : (((w6.setCell ⟨w.heap.size, 6, none⟩ (.slice (some ⟨w6.heap.size + 1, 0, none⟩) nn nn)).alloc (.cells #[.int .i64 0, .int .i64 131072, .int .i64 131073, .int .i64 1048576, .int .i64 1048577] 3)).alloc (.cells (madeCells #[.int .u8 0] nn) 5)) = w8 at *
    generalize w6.heap.size + 1 = bq at *
    have HR8 := Lib.hid hr8
    have hg8 := hg.below hb8
    have HB8 := Lib.hid hb8
    have cJ8 := Lib.hid (fun W => cJ2.out (some ⟨bq, 0, none⟩) nn nn W)
    have cR8 := Lib.hid (fun W => cR2.out (some ⟨bq, 0, none⟩) nn nn W)
    generalize judgeN apple st rd tm ty nn = k2 at *
    have ek2 : ((k2 : Int) == (k2 : Int)) = true := by simp
    have cK8' : ∀ (v : Value) W, Below w8.heap.size w8 W → IsErr W v k2 0 → Calls Tryd.prog 15 #[v] W fun e w' => e = .returned (.int .i64 (k2 : Int)) ∧ Below W.heap.size W w' := fun v W hb hv => fault_Kind v k2 0 W (hg8.below hb) hv
    have cK8 := Lib.hid cK8'
    have hS8' : ∀ W, Below w8.heap.size w8 W → W.cell? ⟨w.heap.size, 0, none⟩ = some (.int .u64 id) ∧ W.cell? ⟨w.heap.size, 1, none⟩ = some (.int .i64 st) ∧ W.cell? ⟨w.heap.size, 2, none⟩ = some (.bool rd) ∧ W.cell? ⟨w.heap.size, 3, none⟩ = some (.bool tm) ∧ W.cell? ⟨w.heap.size, 4, none⟩ = some (.string ty) ∧ W.cell? ⟨w.heap.size, 5, none⟩ = some (.string ca) ∧ W.cell? ⟨w.heap.size, 6, none⟩ = some (.slice (some ⟨bq, 0, none⟩) nn nn) ∧ Below w8.heap.size w8 W := fun W hb => by
      obtain ⟨c0, c1, c2, c3, c4, c5, c6⟩ := (HR8.out.below hb).cells7
      exact ⟨c0, c1, c2, c3, c4, c5, c6, hb⟩
    have HS8 := Lib.hid hS8'
    have hd8 := (Below.refl w8.heap.size w8).drew
    clear hS8' cK8' hr8 hb8 hmk hcM hr6 hfz c6 hra hfa hq8 cJ2 cR2 HS cK cA HR HV HMID ek cR
    first
    | (go_region_held (fun W => W.cell? ⟨w.heap.size, 0, none⟩ = some (.int .u64 id) ∧ W.cell? ⟨w.heap.size, 1, none⟩ = some (.int .i64 st) ∧ W.cell? ⟨w.heap.size, 2, none⟩ = some (.bool rd) ∧ W.cell? ⟨w.heap.size, 3, none⟩ = some (.bool tm) ∧ W.cell? ⟨w.heap.size, 4, none⟩ = some (.string ty) ∧ W.cell? ⟨w.heap.size, 5, none⟩ = some (.string ca) ∧ W.cell? ⟨w.heap.size, 6, none⟩ = some (.slice (some ⟨bq, 0, none⟩) nn nn) ∧ Below w8.heap.size w8 W) (first | assumption | exact HS8.out _ (by assumption))
      (first
      | (go_at_call 14; refine (cJ8.out _).mono ?_; rintro e w10 ⟨hj6, v8, rfl, hv8⟩; have hj7 := Bt (by assumption) hj6; dsimp only)
      | (go_at_call 15; refine (cK8.out _ _ (by assumption) (by assumption)).mono ?_; rintro e w11 ⟨rfl, hj8⟩; have hj9 := Bt (by assumption) hj8; dsimp only)
      | (go_at_call 16; refine (cR8.out _).mono ?_; rintro e w12 ⟨rfl, hj10⟩; have hj11 := Bt (by assumption) hj10; dsimp only)))
    | fail
    have hbE := Bt HB8.out hj11
    go_wp2_with fail
    go_ret
    exact ⟨rfl, hbE⟩
  · have hkI : ((k : Int) != 0) = true := by simp; exact hk
    go_upto_region 6 with (fail)
    first
    | (go_region_held (fun W => W.cell? ⟨w.heap.size, 0, none⟩ = some (.int .u64 id) ∧ W.cell? ⟨w.heap.size, 1, none⟩ = some (.int .i64 st) ∧ W.cell? ⟨w.heap.size, 2, none⟩ = some (.bool rd) ∧ W.cell? ⟨w.heap.size, 3, none⟩ = some (.bool tm) ∧ W.cell? ⟨w.heap.size, 4, none⟩ = some (.string ty) ∧ W.cell? ⟨w.heap.size, 5, none⟩ = some (.string ca) ∧ W.cell? ⟨w.heap.size, 6, none⟩ = some (.slice pa n c) ∧ Below w2.heap.size w2 W) (first | assumption | exact HS.out _ (by assumption))
      (first
      | (go_at_call 15; refine (cK.out _ (by assumption)).mono ?_; rintro e w6 ⟨rfl, hk6⟩; have hk7 := Bt (by assumption) hk6; dsimp only)
      | (go_at_call 16; refine (cR.out _).mono ?_; rintro e w6 ⟨rfl, hk6⟩; have hk8 := Bt (by assumption) hk6; dsimp only)
      | (go_at_call 17; refine (cA.out hk _ (by assumption)).mono ?_; rintro e w6 ⟨rfl, hk6⟩; have hk9 := Bt (by assumption) hk6; dsimp only)))
    | fail
    go_upto_region 8 with (fail)
    obtain ⟨nn, hnn, hcM⟩ := lit_cell w6 (bits .and .i64 size 255 % 5) (by omega) (by omega)
    have hmk := make_bytesJ nn (by omega)
    have hr6 := HR.out.below hk9
    have hfz := hr6.frozen 6
    have hra := (hr6.below ((Below.refl _ _).alloc (Nat.le_refl _) (.cells #[.int .i64 0, .int .i64 131072, .int .i64 131073, .int .i64 1048576, .int .i64 1048577] 3))).below ((Below.refl _ _).alloc (Nat.le_refl _) (.cells (madeCells #[.int .u8 0] nn) 5))
    obtain ⟨_, _, _, _, _, _, c6⟩ := hra.cells7
    have hfa := hra.frozen 6
    have hlt6 := hr6.lt
    have hb06 := HMID.out _ hk9
    have hw0 : w.heap.size ≤ (⟨w.heap.size, 6, none⟩ : Addr).block := Nat.le_refl _
    have hbS := hb06.setCell hw0 (.slice (some ⟨w6.heap.size + 1, 0, none⟩) nn nn)
    have hrS := hr6.setBody (some ⟨w6.heap.size + 1, 0, none⟩) nn nn
    have hb8 := (hbS.alloc hbS.size (.cells #[.int .i64 0, .int .i64 131072, .int .i64 131073, .int .i64 1048576, .int .i64 1048577] 3)).alloc (hbS.alloc hbS.size (.cells #[.int .i64 0, .int .i64 131072, .int .i64 131073, .int .i64 1048576, .int .i64 1048577] 3)).size (.cells (madeCells #[.int .u8 0] nn) 5)
    have hr8 := (hrS.below ((Below.refl _ _).alloc (Nat.le_refl _) (.cells #[.int .i64 0, .int .i64 131072, .int .i64 131073, .int .i64 1048576, .int .i64 1048577] 3))).below ((Below.refl _ _).alloc (Nat.le_refl _) (.cells (madeCells #[.int .u8 0] nn) 5))
    clear hbS hrS hw0 hb06
    go_upto_region 9 with (fail)
    generalize hq8 : (((w6.setCell ⟨w.heap.size, 6, none⟩ (.slice (some ⟨w6.heap.size + 1, 0, none⟩) nn nn)).alloc (.cells #[.int .i64 0, .int .i64 131072, .int .i64 131073, .int .i64 1048576, .int .i64 1048577] 3)).alloc (.cells (madeCells #[.int .u8 0] nn) 5)) = w8 at *
    generalize w6.heap.size + 1 = bq at *
    have HR8 := Lib.hid hr8
    have hg8 := hg.below hb8
    have HB8 := Lib.hid hb8
    have cJ8 := Lib.hid (fun W => cJ2.out (some ⟨bq, 0, none⟩) nn nn W)
    have cR8 := Lib.hid (fun W => cR2.out (some ⟨bq, 0, none⟩) nn nn W)
    generalize judgeN apple st rd tm ty nn = k2 at *
    have ek2 : ((k2 : Int) == (k2 : Int)) = true := by simp
    have cK8' : ∀ (v : Value) W, Below w8.heap.size w8 W → IsErr W v k2 0 → Calls Tryd.prog 15 #[v] W fun e w' => e = .returned (.int .i64 (k2 : Int)) ∧ Below W.heap.size W w' := fun v W hb hv => fault_Kind v k2 0 W (hg8.below hb) hv
    have cK8 := Lib.hid cK8'
    have hS8' : ∀ W, Below w8.heap.size w8 W → W.cell? ⟨w.heap.size, 0, none⟩ = some (.int .u64 id) ∧ W.cell? ⟨w.heap.size, 1, none⟩ = some (.int .i64 st) ∧ W.cell? ⟨w.heap.size, 2, none⟩ = some (.bool rd) ∧ W.cell? ⟨w.heap.size, 3, none⟩ = some (.bool tm) ∧ W.cell? ⟨w.heap.size, 4, none⟩ = some (.string ty) ∧ W.cell? ⟨w.heap.size, 5, none⟩ = some (.string ca) ∧ W.cell? ⟨w.heap.size, 6, none⟩ = some (.slice (some ⟨bq, 0, none⟩) nn nn) ∧ Below w8.heap.size w8 W := fun W hb => by
      obtain ⟨c0, c1, c2, c3, c4, c5, c6⟩ := (HR8.out.below hb).cells7
      exact ⟨c0, c1, c2, c3, c4, c5, c6, hb⟩
    have HS8 := Lib.hid hS8'
    have hd8 := (Below.refl w8.heap.size w8).drew
    clear hS8' cK8' hr8 hb8 hmk hcM hr6 hfz c6 hra hfa hq8 cJ2 cR2 HS cK cA HR HV HMID ek cR
    first
    | (go_region_held (fun W => W.cell? ⟨w.heap.size, 0, none⟩ = some (.int .u64 id) ∧ W.cell? ⟨w.heap.size, 1, none⟩ = some (.int .i64 st) ∧ W.cell? ⟨w.heap.size, 2, none⟩ = some (.bool rd) ∧ W.cell? ⟨w.heap.size, 3, none⟩ = some (.bool tm) ∧ W.cell? ⟨w.heap.size, 4, none⟩ = some (.string ty) ∧ W.cell? ⟨w.heap.size, 5, none⟩ = some (.string ca) ∧ W.cell? ⟨w.heap.size, 6, none⟩ = some (.slice (some ⟨bq, 0, none⟩) nn nn) ∧ Below w8.heap.size w8 W) (first | assumption | exact HS8.out _ (by assumption))
      (first
      | (go_at_call 14; refine (cJ8.out _).mono ?_; rintro e w10 ⟨hj6, v8, rfl, hv8⟩; have hj7 := Bt (by assumption) hj6; dsimp only)
      | (go_at_call 15; refine (cK8.out _ _ (by assumption) (by assumption)).mono ?_; rintro e w11 ⟨rfl, hj8⟩; have hj9 := Bt (by assumption) hj8; dsimp only)
      | (go_at_call 16; refine (cR8.out _).mono ?_; rintro e w12 ⟨rfl, hj10⟩; have hj11 := Bt (by assumption) hj10; dsimp only)))
    | fail
    have hbE := Bt HB8.out hj11
    go_wp2_with fail
    go_ret
    exact ⟨rfl, hbE⟩
theorem walkWireJudges (apple : Bool) (id st : Int) (rd tm : Bool) (ty ca : ByteArray) (pa : Option Addr) (n c : Nat) (size : Int) (w : World) (hg : Handle w) (_ : Utf8Laid w) (hty : ty.size ≤ maxLen) (hn : n ≤ maxLen) (_ : (Lit.int .i64 size).wf = true) :
    Calls Tryd.prog 3 #[.bool apple, .agg #[.int .u64 id, .int .i64 st, .bool rd, .bool tm, .string ty, .string ca, .slice pa n c], .int .i64 size] w fun e w' => e = .returned (.bool true) ∧ Below w.heap.size w w' :=
  wjudges_walk apple id st rd tm ty ca pa n c size w hg hty hn
end Go.Proofs.YteabhblbefglpaaDoor

/- A response that came in. -/
namespace Go.Proofs.YteabhblbefglpaaDoor
open Go.RowKit Go.ChangeShapes Go.WideShapes

theorem cells_resp : Tryd.prog.cellsOf 25 = 7 := by kernel_rfl
theorem cells_u64R : Tryd.prog.cellsOf 22 = 1 := by kernel_rfl
theorem cells_intR : Tryd.prog.cellsOf 3 = 1 := by kernel_rfl
theorem cells_boolR : Tryd.prog.cellsOf 4 = 1 := by kernel_rfl
theorem cells_strR : Tryd.prog.cellsOf 9 = 1 := by kernel_rfl
theorem cells_bytesR : Tryd.prog.cellsOf 23 = 1 := by kernel_rfl
set_option maxRecDepth 100000 in
theorem open_resp {H : Type} {enc : TypeId × Value → H} {W : World} {base : Nat} {spare : Nat → Bool} {held : Bool} {fuel : Nat} {cs : List Value} {x : DataW H × List MemPlace} (h : DataW.trod enc Tryd.prog W base spare held fuel 25 cs = some x) :
    ∃ (id st : Int) (rd tm : Bool) (ty ca : ByteArray) (pa : Option Addr) (n c : Nat), cs = [.int .u64 id, .int .i64 st, .bool rd, .bool tm, .string ty, .string ca, .slice pa n c] ∧ ty.size ≤ maxLen ∧ n ≤ maxLen := by
  obtain ⟨xs, k, _, _, hl, hlen, hf⟩ := DataW.trod_struct Tryd.underlying25 h
  rw [cells_resp] at hl
  match xs, hlen, cs, hl with
  | [y0, y1, y2, y3, y4, y5, y6], _, [v0, v1, v2, v3, v4, v5, v6], _ =>
    have g0 := hf 0 _ rfl
    have g1 := hf 1 _ rfl
    have g2 := hf 2 _ rfl
    have g3 := hf 3 _ rfl
    have g4 := hf 4 _ rfl
    have g5 := hf 5 _ rfl
    have g6 := hf 6 _ rfl
    simp [cells_u64R, cells_intR, cells_boolR, cells_strR, cells_bytesR] at g0 g1 g2 g3 g4 g5 g6
    obtain ⟨id, e0, _, _⟩ := DataW.trod_int Tryd.underlying22 g0
    obtain ⟨st, e1, _, _⟩ := DataW.trod_int Tryd.underlying3 g1
    obtain ⟨rd, e2, _⟩ := DataW.trod_bool Tryd.underlying4 g2
    obtain ⟨tm, e3, _⟩ := DataW.trod_bool Tryd.underlying4 g3
    obtain ⟨ty, e4, _, z4⟩ := DataW.trod_string Tryd.underlying9 g4
    obtain ⟨ca, e5, _, _⟩ := DataW.trod_string Tryd.underlying9 g5
    simp at e0 e1 e2 e3 e4 e5
    subst e0 e1 e2 e3 e4 e5
    rcases Go.Deep.open_slice Tryd.underlying23 g6 with ⟨e6, _⟩ | ⟨a, len, cap, _, _, _, _, e6, _, h1, h2, _⟩
    · simp at e6
      subst e6
      exact ⟨id, st, rd, tm, ty, ca, none, 0, 0, rfl, z4, Nat.zero_le _⟩
    · simp at e6
      subst e6
      exact ⟨id, st, rd, tm, ty, ca, some a, len, cap, rfl, z4, by omega⟩
end Go.Proofs.YteabhblbefglpaaDoor
