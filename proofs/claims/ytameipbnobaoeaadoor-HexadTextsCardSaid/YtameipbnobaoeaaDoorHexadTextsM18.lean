/- The walk of HexadTexts. -/
import Derived.Test.YtameipbnobaoeaaDoorHexadTextsM15
import Derived.Test.YtameipbnobaoeaaDoorHexadTextsM16
import Derived.Test.YtameipbnobaoeaaDoorHexadTextsM17
import Derived.Deep.RegionHeld
import Derived.Deep.MidRow
import Derived.Deep.WholeRow
import Derived.Test.YtameipbnobaoeaaDoorHexadTextsM10
import Derived.Shelf.Vars
import Derived.HandedShaped
import Derived.ChangeSame

namespace Go.Proofs.YtameipbnobaoeaaDoor
open Go.RowKit

theorem ArrAt.range {w : World} {g : Nat} {t : TypeId} {l : List Value} (h : ArrAt w g t l) : w.rangeAt g 0 l := fun j v hv => by
  rw [Nat.zero_add]; exact h.cell hv
theorem textH_len {g : List Nat} (hl : g.length = 8) (hg : ∀ x ∈ g, x < 65536) : (textH g).length ≤ 56 := by
  rw [← out_text hl]
  exact outR_len hg _ _ 8
theorem wpAnyH_takeD {P : Program} {md : Region.Mode} {ops : Array Oper} {Q : Exit → Act → World → Prop} {S : World → Prop} {i : Nat} {oi : Oper} {v : Value} {fuel : Nat} {listed : Array Bool} {a : Act} {w : World} (k : Nat) (hi : ops[i]? = some oi)
    (hs : Region.noSelect ops = true) (hf : Region.free md ops listed i = true) (hr : (Region.ready md ops listed).contains i = true)
    (hQ : ∀ c a w, Q (.panic c) (a.put oi.dst v) w → Q (.panic c) a w) (hd : oi.dst = some k) (hy : YieldsIf P ops S oi v a) (hS : S w)
    (h : wpAnyH P md ops Q S fuel (listed.setIfInBounds i true) (a.put (some k) v) w) : wpAnyH P md ops Q S (fuel + 1) listed a w :=
  wpAnyH_take hi hs hf hr hQ hy hS (by rw [hd]; exact h)
set_option maxHeartbeats 40000000 in
set_option maxRecDepth 100000 in
theorem texts_walk12 (b : List Nat) (w : World) (hl : b.length = 16) (hb : ∀ x ∈ b, x < 256) (hg : Handle w) (hm : MaxAt w) :
    Calls Tryd.prog 3 #[.agg (b.map u8V).toArray] w fun e w' => e = .returned (.bool true) ∧ Below w.heap.size w w' := by
  have hglt := grps_lt hb
  have hgl := grps_len b
  have hlen := textH_len hgl hglt
  have hpt := text_parse hglt hgl
  have hbg := bytes_grps hb hl
  have hts := ofL_size (textH (grps b))
  have c1' := fun W => hexad_Text b W hl hb
  have c2' := fun (W : World) (hg : Handle W) (hm : MaxAt W) => hbg ▸ hexad_Parse (ofL (textH (grps b))) (grps b) W (by omega) hg hm hpt
  have c3' := fun W => ref12_Text (grps b) W hgl hglt
  have c4' := fun W => hexad_Groups b W hl hb
  have c5' := fun W => hbg ▸ hexad_Of (grps b) W hgl hglt
  have hA0 : ArrAt (w.alloc (.cells (b.map u8V).toArray 23)) w.heap.size 23 (b.map u8V) := heap_alloc_new w _
  have hst0 : Below w.heap.size w (w.alloc (.cells (b.map u8V).toArray 23)) := (Below.refl _ _).alloc (Nat.le_refl _) _
  have hgrp : ∀ i, i < 8 → (grps b).getD i 0 = grpB b i := fun i hi => by unfold grps; simp [List.getD, hi]
  have hgm : (List.range 8).map (fun j => u16V (if j < 8 then grpB b j else 0)) = (grps b).map u16V := by
    unfold grps
    rw [List.map_map]
    exact List.map_congr_left fun j hj => by
      rw [if_pos (List.mem_range.1 hj)]; rfl
  have HGM := Lib.hid hgm
  have C1 := Lib.hid c1'
  have C2 := Lib.hid c2'
  have C3 := Lib.hid c3'
  have C4 := Lib.hid c4'
  have C5 := Lib.hid c5'
  have HB := Lib.hid hb
  have HGL := Lib.hid hgl
  have HL := Lib.hid hl
  clear c1' c2' c3' c4' c5' hb hgl hgm hgrp hglt hpt hbg hts hlen
  generalize ofL (textH (grps b)) = T at *
  have hg0 := hg.below hst0
  have hm0 := hm.below hst0
  go_enter Tryd.func3, Tryd.ntmps3
  go_wp2_with fail
  refine (speaks12 _ hg0 hm0).mono ?_
  rintro e w1 ⟨rfl, hb1⟩
  have hA1 := hA0.below hb1
  have hb01 := Bt hst0 hb1
  have hG0 : ArrAt (w1.alloc (.cells #[.int .u16 0, .int .u16 0, .int .u16 0, .int .u16 0, .int .u16 0, .int .u16 0, .int .u16 0, .int .u16 0] 26)) w1.heap.size 26 (List.replicate 8 (.int .u16 0)) := heap_alloc_new w1 _
  have hst1 : Below w1.heap.size w1 (w1.alloc (.cells #[.int .u16 0, .int .u16 0, .int .u16 0, .int .u16 0, .int .u16 0, .int .u16 0, .int .u16 0, .int .u16 0] 26)) := (Below.refl _ _).alloc (Nat.le_refl _) _
  have hA := (hA1.below hst1).row (n := 16) (f := fun j => u8V (b.getD j 0)) (by rw [List.length_map, HL.out]) (fun i hi => by rw [List.getElem?_map, List.getD, List.getElem?_eq_getElem (by rw [HL.out]; omega)]; rfl)
  have hG := hG0.row (n := 8) (f := fun j => u16V (if j < 0 then grpB b j else 0)) rfl (fun i hi => by rw [if_neg (by omega), List.getElem?_replicate, if_pos hi]; rfl)
  have hb02 := Bt hb01 hst1
  have hN : w.heap.size < w1.heap.size := by have := hb1.size; rw [World.size_alloc] at this; omega
  clear hA1 hA0 hb1 hst1 hG0 hg0 hm0 hst0 hb01
  go_wp2_with fail
  generalize hNG : w1.heap.size = NG at *
  go_loopw [11] (fun x wr => ∃ i : Nat, i ≤ 8 ∧ x = .int .i64 i ∧ wr.rowIs w.heap.size 23 16 (fun j => u8V (b.getD j 0)) ∧ wr.rowIs NG 26 8 (fun j => u16V (if j < i then grpB b j else 0)) ∧ Below w.heap.size w wr) (fun x _ => 8 - (intOf x).toNat)
  case atStart => exact ⟨0, Nat.zero_le _, rfl, hA, hG, hb02⟩
  case round =>
    obtain ⟨i, hil, rfl, hAr, hGr, hbr⟩ := hrel
    clear hA hG hb02 hNG
    by_cases hlt : i < 8
    · have hiI : (i : Int) < 8 := by omega
      have l1 := getD_lt HB.out (by omega) (2 * i)
      have l2 := getD_lt HB.out (by omega) (2 * i + 1)
      have c1 := hAr.cell (i := 2 * i) (by omega)
      have c2 := hAr.cell (i := 2 * i + 1) (by omega)
      have c3 := hGr.cell hlt
      have f3 := hGr.frozen i
      have z1 : IntKind.i64.wrap (2 * (i : Int)) = 2 * (i : Int) := IntWalk.i64_in _ (by omega)
      have z2 : IntKind.i64.wrap (2 * (i : Int) + 1) = 2 * (i : Int) + 1 := IntWalk.i64_in _ (by omega)
      have z3 : (0 : Int) ≤ 2 * (i : Int) := by omega
      have z4 : (0 : Int) ≤ 2 * (i : Int) + 1 := by omega
      have z5 : 2 * (i : Int) < 16 := by omega
      have z6 : 2 * (i : Int) + 1 < 16 := by omega
      have z7 : (2 * (i : Int)).toNat = 2 * i := by omega
      have z8 : (2 * (i : Int) + 1).toNat = 2 * i + 1 := by omega
      have hgb : grpB b i = b.getD (2 * i) 0 * 256 + b.getD (2 * i + 1) 0 := rfl
      simp only [u8V] at c1 c2
      generalize b.getD (2 * i) 0 = m at *
      generalize b.getD (2 * i + 1) 0 = d at *
      have y1 : IntKind.u16.wrap (m : Int) = (m : Int) := IntWalk.u16_in _ (by omega)
      have y2 : IntKind.u16.wrap (d : Int) = (d : Int) := IntWalk.u16_in _ (by omega)
      have y3 : IntKind.u16.wrap (256 * (m : Int)) = 256 * (m : Int) := IntWalk.u16_in _ (by omega)
      have y4 : IntKind.u16.wrap (256 * (m : Int) + (d : Int)) = 256 * (m : Int) + (d : Int) := IntWalk.u16_in _ (by omega)
      have hset := hGr.set i (u16V (m * 256 + d))
      have hAs := hAr.setOther (a := ⟨NG, i, none⟩) (by show w.heap.size ≠ NG; omega) (u16V (m * 256 + d))
      have hbs := hbr.setCell (show w.heap.size ≤ (⟨NG, i, none⟩ : Addr).block by show _ ≤ NG; omega) (u16V (m * 256 + d))
      have ev : u16V (m * 256 + d) = .int .u16 (256 * (m : Int) + (d : Int)) := by unfold u16V; congr 1; omega
      have hcong := hset.congr (g := fun j => u16V (if j < i + 1 then grpB b j else 0)) (fun j hj => by
        by_cases e : j = i
        · subst e; rw [if_pos rfl, if_pos (by omega), hgb]
        · rw [if_neg e]
          by_cases h2 : j < i
          · rw [if_pos h2, if_pos (by omega)]
          · rw [if_neg h2, if_neg (by omega)])
      rw [ev] at hcong hAs hbs
      have HC := Lib.hid hcong
      have HA := Lib.hid hAs
      have HBS := Lib.hid hbs
      unfold u16V at c3
      clear hset hAs hbs hcong hGr hAr hgb
      go_wp2_with fail
      go_region
      go_wp2_with fail
      go_roundw
      case rel => exact ⟨i + 1, by omega, by go_num, HA.out, HC.out, HBS.out.drew⟩
      case measure => simp [intOf]; omega
    · have hi8 : i = 8 := by omega
      have hiJ : ¬ (i : Int) < 8 := by omega
      have hR := ArrAt.ofRow hGr
      rw [hi8] at hR
      rw [HGM.out] at hR
      have hRa := ArrAt.ofRow hAr
      have hgle := HGL.out
      have hll := HL.out
      have hbb := HB.out
      clear hAr hGr HB HGM
      have lA : (b.map u8V).length = 16 := by rw [List.length_map, hll]
      have lG : ((grps b).map u16V).length = 8 := by rw [List.length_map, hgle]
      have hlst : (List.range 16).map (fun j => u8V (b.getD j 0)) = b.map u8V := by
        apply List.ext_getElem
        · rw [lA]; simp
        · intro j h1 h2
          rw [lA] at h2
          simp [List.getD, List.getElem?_eq_getElem (show j < b.length by omega)]
      rw [hlst] at hRa
      have q6 : ∀ W, (Op.equalIn 10000 23 (.agg (b.map u8V).toArray) (.agg (b.map u8V).toArray)).run Tryd.prog W = .ok true W := by
        intro W
        obtain ⟨b0, b1, b2, b3, b4, b5, b6, b7, b8, b9, b10, b11, b12, b13, b14, b15, rfl⟩ := sixteen hll
        exact equal_v6 b0 b1 b2 b3 b4 b5 b6 b7 b8 b9 b10 b11 b12 b13 b14 b15 W
      have q8 : ∀ W, (Op.equalIn 10000 26 (.agg ((grps b).map u16V).toArray) (.agg ((grps b).map u16V).toArray)).run Tryd.prog W = .ok true W := by
        intro W
        clear hlst hRa hR q6
        generalize grps b = gg at *
        obtain ⟨x0, x1, x2, x3, x4, x5, x6, x7, rfl⟩ := eightM hgle
        exact equal_g8 x0 x1 x2 x3 x4 x5 x6 x7 W
      have oA : ((b.map u8V).toArray).all (·.oneCell') = true := by
        rw [List.all_toArray, List.all_eq_true]
        intro x hx
        obtain ⟨n, _, rfl⟩ := List.mem_map.1 hx
        rfl
      clear hlst hgle hll hbb HL HGL
      generalize b.map u8V = LA at *
      generalize (grps b).map u16V = LG at *
      have et : (T.toList == T.toList) = true := beq_self_eq_true _
      have u6 : Tryd.prog.underlying 23 = some (.array 16 5) := Tryd.underlying23
      have u8 : Tryd.prog.underlying 26 = some (.array 8 25) := Tryd.underlying26
      have k6 : (Tryd.prog.info? 23).map (·.size) = some LA.length := by rw [lA]; exact size_v6
      have k8 : (Tryd.prog.info? 26).map (·.size) = some LG.length := by rw [lG]; exact size_g8
      have U6 := Lib.hid u6
      have U8 := Lib.hid u8
      have K6 := Lib.hid k6
      have K8 := Lib.hid k8
      clear u6 u8 k6 k8
      have r1 := hRa.range
      go_wp2_with (refine wpList_load_mid rfl _ _ rfl _ _ rfl LA _ r1 U6.out rfl K6.out ?_)
      refine (C1.out _).mono ?_
      rintro e w2 ⟨rfl, hb2⟩
      have hRa2 := hRa.below hb2
      have hRg2 := hR.below hb2
      have hb02 := Bt hbr hb2
      have hg2 := hg.below hb02
      have hm2 := hm.below hb02
      clear r1 hRa hR hb2 hbr
      go_wp2_with fail
      refine (C2.out _ hg2 hm2).mono ?_
      rintro e w3 ⟨rfl, hb3⟩
      have hP3 : ArrAt (w3.alloc (.cells LA.toArray 23)) w3.heap.size 23 LA := heap_alloc_new w3 _
      have hst4 : Below w3.heap.size w3 (w3.alloc (.cells LA.toArray 23)) := (Below.refl _ _).alloc (Nat.le_refl _) _
      have hsc : (storeCells ⟨w3.heap.size, 0, none⟩ LA 0).run Tryd.prog (w3.alloc (.cells #[.int .u8 0, .int .u8 0, .int .u8 0, .int .u8 0, .int .u8 0, .int .u8 0, .int .u8 0, .int .u8 0, .int .u8 0, .int .u8 0, .int .u8 0, .int .u8 0, .int .u8 0, .int .u8 0, .int .u8 0, .int .u8 0] 23)) = .ok () (w3.alloc (.cells LA.toArray 23)) := by
        have := run_storeCells_new (P := Tryd.prog) w3 23 #[.int .u8 0, .int .u8 0, .int .u8 0, .int .u8 0, .int .u8 0, .int .u8 0, .int .u8 0, .int .u8 0, .int .u8 0, .int .u8 0, .int .u8 0, .int .u8 0, .int .u8 0, .int .u8 0, .int .u8 0, .int .u8 0] LA.toArray (by rw [size_v6]; simp [lA]) (by simp [lA]) oA
        simpa using this
      have hRa3 := hRa2.below (Bt hb3 hst4)
      have hRg3 := hRg2.below (Bt hb3 hst4)
      have hb03 := Bt hb02 (Bt hb3 hst4)
      go_wp2_with fail
      clear hst4 hsc hRa2 hRg2 hb02 hb3 hg2 hm2 C1 C2 oA lA lG
      generalize w3.alloc (.cells LA.toArray 23) = w4 at *
      generalize w3.heap.size = n3 at *
      have hd := (Below.refl w4.heap.size w4).drew
      have hS : ∀ W, Below w4.heap.size w4 W → W.rangeAt w.heap.size 0 LA ∧ W.rangeAt NG 0 LG ∧ W.rangeAt n3 0 LA ∧ Below w4.heap.size w4 W := fun W hW => ⟨(hRa3.below hW).range, (hRg3.below hW).range, (hP3.below hW).range, hW⟩
      have HS := Lib.hid hS
      clear hS hRa3 hRg3 hP3
      refine wp_region_held_drew (S := (fun W => W.rangeAt w.heap.size 0 LA ∧ W.rangeAt NG 0 LG ∧ W.rangeAt n3 0 LA ∧ Below w4.heap.size w4 W)) (by kernel_rfl) (HS.out _ hd) (fun hHeld => ?_)
      refine wpAnyH_take (i := 0) (v := ?v0) rfl (by kernel_rfl) (by kernel_rfl) (by kernel_rfl) (fun _ _ _ h => h) (Or.inl ⟨by kernel_rfl, ?y0⟩) (by assumption) ?_
      case y0 => (intro W hSw; (try dsimp only at hSw); go_simp; (try with_reducible rfl))
      try simp only [Act.put, List.setIfInBounds_toArray, List.set_cons_zero, List.set_cons_succ]
      refine wpAnyH_take (i := 1) (v := .agg LG.toArray) rfl (by kernel_rfl) (by kernel_rfl) (by kernel_rfl) (fun _ _ _ h => h) (yieldsIf_load_mid (by kernel_rfl) 26 (.tmp 3) (by kernel_rfl) NG 0 (by kernel_rfl) LG (.array 8 25) ?s1 U8.out rfl K8.out) (by assumption) ?_
      case s1 => (intro W hSw; (try dsimp only at hSw); go_split_ands; assumption)
      try simp only [Act.put, List.setIfInBounds_toArray, List.set_cons_zero, List.set_cons_succ]
      refine wpAnyH_ready (rs := [2]) (by kernel_rfl) (by simp) ?_
      refine AllReadyH.cons rfl (fun K hK => ?_) AllReadyH.nil
      go_simp
      go_wp2_with (go_at_call 8; refine (C3.out _).mono ?_; rintro e wA ⟨rfl, hk6⟩; have hkA := Bt hd hk6; dsimp only)
      refine hK.out _ _ (HS.out _ hkA) (fun hHeld2 => ?_)
      clear hK K hHeld
      have hHeld := hHeld2
      clear hHeld2 hk6
      refine wpAnyH_take (i := 3) (v := ?v3) rfl (by kernel_rfl) (by kernel_rfl) (by kernel_rfl) (fun _ _ _ h => h) (Or.inl ⟨by kernel_rfl, ?y3⟩) (by assumption) ?_
      case y3 => (intro W hSw; (try dsimp only at hSw); go_simp; (try with_reducible rfl))
      try simp only [Act.put, List.setIfInBounds_toArray, List.set_cons_zero, List.set_cons_succ]
      refine wpAnyH_take (i := 4) (v := ?v4) rfl (by kernel_rfl) (by kernel_rfl) (by kernel_rfl) (fun _ _ _ h => h) (Or.inl ⟨by kernel_rfl, ?y4⟩) (by assumption) ?_
      case y4 => (intro W hSw; (try dsimp only at hSw); go_simp; (try with_reducible rfl))
      try simp only [Act.put, List.setIfInBounds_toArray, List.set_cons_zero, List.set_cons_succ]
      refine wpAnyH_take (i := 5) (v := ?v5) rfl (by kernel_rfl) (by kernel_rfl) (by kernel_rfl) (fun _ _ _ h => h) (Or.inl ⟨by kernel_rfl, ?y5⟩) (by assumption) ?_
      case y5 => (intro W hSw; (try dsimp only at hSw); go_simp; (try with_reducible rfl))
      try simp only [Act.put, List.setIfInBounds_toArray, List.set_cons_zero, List.set_cons_succ]
      refine wpAnyH_take (i := 6) (v := ?v6) rfl (by kernel_rfl) (by kernel_rfl) (by kernel_rfl) (fun _ _ _ h => h) (Or.inl ⟨by kernel_rfl, ?y6⟩) (by assumption) ?_
      case y6 => (intro W hSw; (try dsimp only at hSw); go_simp; (try with_reducible rfl))
      try simp only [Act.put, List.setIfInBounds_toArray, List.set_cons_zero, List.set_cons_succ]
      refine wpAnyH_take (i := 7) (v := ?v7) rfl (by kernel_rfl) (by kernel_rfl) (by kernel_rfl) (fun _ _ _ h => h) (Or.inl ⟨by kernel_rfl, ?y7⟩) (by assumption) ?_
      case y7 => (intro W hSw; (try dsimp only at hSw); go_simp; (try with_reducible rfl))
      try simp only [Act.put, List.setIfInBounds_toArray, List.set_cons_zero, List.set_cons_succ]
      refine wpAnyH_take (i := 8) (v := ?v8) rfl (by kernel_rfl) (by kernel_rfl) (by kernel_rfl) (fun _ _ _ h => h) (Or.inl ⟨by kernel_rfl, ?y8⟩) (by assumption) ?_
      case y8 => (intro W hSw; (try dsimp only at hSw); go_simp; (try with_reducible rfl))
      try simp only [Act.put, List.setIfInBounds_toArray, List.set_cons_zero, List.set_cons_succ]
      refine wpAnyH_take (i := 9) (v := .agg LA.toArray) rfl (by kernel_rfl) (by kernel_rfl) (by kernel_rfl) (fun _ _ _ h => h) (yieldsIf_load_mid (by kernel_rfl) 23 (.tmp 6) (by kernel_rfl) n3 0 (by kernel_rfl) LA (.array 16 5) ?s9 U6.out rfl K6.out) (by assumption) ?_
      case s9 => (intro W hSw; (try dsimp only at hSw); go_split_ands; assumption)
      try simp only [Act.put, List.setIfInBounds_toArray, List.set_cons_zero, List.set_cons_succ]
      refine wpAnyH_take (i := 10) (v := .agg LA.toArray) rfl (by kernel_rfl) (by kernel_rfl) (by kernel_rfl) (fun _ _ _ h => h) (yieldsIf_load_mid (by kernel_rfl) 23 (.tmp 1) (by kernel_rfl) w.heap.size 0 (by kernel_rfl) LA (.array 16 5) ?s10 U6.out rfl K6.out) (by assumption) ?_
      case s10 => (intro W hSw; (try dsimp only at hSw); go_split_ands; assumption)
      try simp only [Act.put, List.setIfInBounds_toArray, List.set_cons_zero, List.set_cons_succ]
      refine wpAnyH_take (i := 11) (v := ?v11) rfl (by kernel_rfl) (by kernel_rfl) (by kernel_rfl) (fun _ _ _ h => h) (Or.inl ⟨by kernel_rfl, ?y11⟩) (by assumption) ?_
      case y11 => (intro W hSw; (try dsimp only at hSw); go_simp; (try with_reducible rfl))
      try simp only [Act.put, List.setIfInBounds_toArray, List.set_cons_zero, List.set_cons_succ]
      refine wpAnyH_take (i := 12) (v := ?v12) rfl (by kernel_rfl) (by kernel_rfl) (by kernel_rfl) (fun _ _ _ h => h) (Or.inl ⟨by kernel_rfl, ?y12⟩) (by assumption) ?_
      case y12 => (intro W hSw; (try dsimp only at hSw); go_simp; (try with_reducible rfl))
      try simp only [Act.put, List.setIfInBounds_toArray, List.set_cons_zero, List.set_cons_succ]
      refine wpAnyH_take (i := 13) (v := ?v13) rfl (by kernel_rfl) (by kernel_rfl) (by kernel_rfl) (fun _ _ _ h => h) (Or.inl ⟨by kernel_rfl, ?y13⟩) (by assumption) ?_
      case y13 => (intro W hSw; (try dsimp only at hSw); go_simp; (try with_reducible rfl))
      try simp only [Act.put, List.setIfInBounds_toArray, List.set_cons_zero, List.set_cons_succ]
      refine wpAnyH_take (i := 14) (v := .agg LA.toArray) rfl (by kernel_rfl) (by kernel_rfl) (by kernel_rfl) (fun _ _ _ h => h) (yieldsIf_load_mid (by kernel_rfl) 23 (.tmp 1) (by kernel_rfl) w.heap.size 0 (by kernel_rfl) LA (.array 16 5) ?s14 U6.out rfl K6.out) (by assumption) ?_
      case s14 => (intro W hSw; (try dsimp only at hSw); go_split_ands; assumption)
      try simp only [Act.put, List.setIfInBounds_toArray, List.set_cons_zero, List.set_cons_succ]
      refine wpAnyH_take (i := 16) (v := .agg LG.toArray) rfl (by kernel_rfl) (by kernel_rfl) (by kernel_rfl) (fun _ _ _ h => h) (yieldsIf_load_mid (by kernel_rfl) 26 (.tmp 3) (by kernel_rfl) NG 0 (by kernel_rfl) LG (.array 8 25) ?s16 U8.out rfl K8.out) (by assumption) ?_
      case s16 => (intro W hSw; (try dsimp only at hSw); go_split_ands; assumption)
      try simp only [Act.put, List.setIfInBounds_toArray, List.set_cons_zero, List.set_cons_succ]
      refine wpAnyH_ready (rs := [15]) (by kernel_rfl) (by simp) ?_
      refine AllReadyH.cons rfl (fun K hK => ?_) AllReadyH.nil
      go_simp
      go_wp2_with (go_at_call 9; refine (C4.out _).mono ?_; rintro e wB ⟨rfl, hk6⟩; have hkB := Bt hkA hk6; dsimp only)
      refine hK.out _ _ (HS.out _ hkB) (fun hHeld2 => ?_)
      clear hK K hHeld
      have hHeld := hHeld2
      clear hHeld2 hk6
      refine wpAnyH_take (i := 17) (v := ?v17) rfl (by kernel_rfl) (by kernel_rfl) (by kernel_rfl) (fun _ _ _ h => h) (Or.inl ⟨by kernel_rfl, ?y17⟩) (by assumption) ?_
      case y17 => (intro W hSw; (try dsimp only at hSw); go_simp; (try with_reducible rfl))
      try simp only [Act.put, List.setIfInBounds_toArray, List.set_cons_zero, List.set_cons_succ]
      refine wpAnyH_take (i := 18) (v := ?v18) rfl (by kernel_rfl) (by kernel_rfl) (by kernel_rfl) (fun _ _ _ h => h) (Or.inl ⟨by kernel_rfl, ?y18⟩) (by assumption) ?_
      case y18 => (intro W hSw; (try dsimp only at hSw); go_simp; (try with_reducible rfl))
      try simp only [Act.put, List.setIfInBounds_toArray, List.set_cons_zero, List.set_cons_succ]
      refine wpAnyH_take (i := 19) (v := ?v19) rfl (by kernel_rfl) (by kernel_rfl) (by kernel_rfl) (fun _ _ _ h => h) (Or.inl ⟨by kernel_rfl, ?y19⟩) (by assumption) ?_
      case y19 => (intro W hSw; (try dsimp only at hSw); go_simp; (try with_reducible rfl))
      try simp only [Act.put, List.setIfInBounds_toArray, List.set_cons_zero, List.set_cons_succ]
      refine wpAnyH_take (i := 20) (v := .agg LG.toArray) rfl (by kernel_rfl) (by kernel_rfl) (by kernel_rfl) (fun _ _ _ h => h) (yieldsIf_load_mid (by kernel_rfl) 26 (.tmp 3) (by kernel_rfl) NG 0 (by kernel_rfl) LG (.array 8 25) ?s20 U8.out rfl K8.out) (by assumption) ?_
      case s20 => (intro W hSw; (try dsimp only at hSw); go_split_ands; assumption)
      try simp only [Act.put, List.setIfInBounds_toArray, List.set_cons_zero, List.set_cons_succ]
      refine wpAnyH_take (i := 22) (v := .agg LA.toArray) rfl (by kernel_rfl) (by kernel_rfl) (by kernel_rfl) (fun _ _ _ h => h) (yieldsIf_load_mid (by kernel_rfl) 23 (.tmp 1) (by kernel_rfl) w.heap.size 0 (by kernel_rfl) LA (.array 16 5) ?s22 U6.out rfl K6.out) (by assumption) ?_
      case s22 => (intro W hSw; (try dsimp only at hSw); go_split_ands; assumption)
      try simp only [Act.put, List.setIfInBounds_toArray, List.set_cons_zero, List.set_cons_succ]
      refine wpAnyH_ready (rs := [21]) (by kernel_rfl) (by simp) ?_
      refine AllReadyH.cons rfl (fun K hK => ?_) AllReadyH.nil
      go_simp
      go_wp2_with (go_at_call 10; refine (C5.out _).mono ?_; rintro e wC ⟨rfl, hk6⟩; have hkC := Bt hkB hk6; dsimp only)
      refine hK.out _ _ (HS.out _ hkC) (fun hHeld2 => ?_)
      clear hK K hHeld
      have hHeld := hHeld2
      clear hHeld2 hk6
      refine wpAnyH_takeD 60 (i := 23) (v := ?v23) rfl (by kernel_rfl) (by kernel_rfl) (by kernel_rfl) (fun _ _ _ h => h) (by kernel_rfl) (Or.inl ⟨by kernel_rfl, ?y23⟩) (by assumption) ?_
      case y23 => (intro W hSw; (try dsimp only at hSw); go_simp; (try with_reducible rfl))
      try simp only [Act.put, List.setIfInBounds_toArray, List.set_cons_zero, List.set_cons_succ]
      refine wpAnyH_takeD 61 (i := 24) (v := ?v24) rfl (by kernel_rfl) (by kernel_rfl) (by kernel_rfl) (fun _ _ _ h => h) (by kernel_rfl) (Or.inl ⟨by kernel_rfl, ?y24⟩) (by assumption) ?_
      case y24 => (intro W hSw; (try dsimp only at hSw); go_simp; (try with_reducible rfl))
      try simp only [Act.put, List.setIfInBounds_toArray, List.set_cons_zero, List.set_cons_succ]
      refine wpAnyH_takeD 2 (i := 25) (v := ?v25) rfl (by kernel_rfl) (by kernel_rfl) (by kernel_rfl) (fun _ _ _ h => h) (by kernel_rfl) (Or.inl ⟨by kernel_rfl, ?y25⟩) (by assumption) ?_
      case y25 => (intro W hSw; (try dsimp only at hSw); go_simp; (try with_reducible rfl))
      try simp only [Act.put, List.setIfInBounds_toArray, List.set_cons_zero, List.set_cons_succ]
      refine wpAnyH_done (by kernel_rfl) ?_ _
      go_wp2_with fail
      go_ret
      exact ⟨rfl, Bt hb03 hkC⟩
end Go.Proofs.YtameipbnobaoeaaDoor

/- What HexadTexts' card asks: sixteen bytes that came in; the world's shape gives the library's variable. -/
namespace Go.Proofs.YtameipbnobaoeaaDoor
open Go.ChangeShapes Go.WideShapes Go.ChangeAt Go.RowKit

section
variable {H : Type} {enc : TypeId × Value → H}
theorem handed_and_shaped {a : Assume} {C : Checked} {os : Os} {f : FuncId} {fn : Func} {s : ChangeSpec} {conds : List PathCond} {apart fresh handsOn again : Bool} {X : World → Array Value → Prop}
    (hX : ∀ (w w' : World) (args : Array Value), w.heap = w'.heap → X w args → X w' args)
    (own : ownKnob C.prog.godebug = none) (started : os.Started) (noInit : C.prog.inits.idxOf? f = none) (hfn : C.prog.funcs[f]? = some fn)
    (witness : ∃ (w : World) (tape : Tape) (i : Input), w.os = os ∧ (w.forCall tape i).Shaped C.prog ∧ i.vars = [] ∧ Input.okWide C.prog (w.forCall tape i) .any w.heap.size f i ∧
      ((s.pre enc C.prog fn conds apart (w.forCall tape i).memory i.args ∧ X (w.forCall tape i).memory i.args) ∧ sizedMet enc C.prog fn (OpenSpec.ofChange s) apart (w.forCall tape i).memory i.args) ∧ a.holds C.prog (lone (Frame.enter C.prog f i.args .normal) [] (w.forCall tape i)))
    (contract : ∀ (W : World) (base : Nat) (args : Array Value) (ds gs : List (DataW H)) (before : List MemPlace),
      (∀ (j : Nat) t v, fn.params[j]? = some t → args[j]? = some v → Value.okWide C.prog W .any base t v) →
      DataW.Whole enc C.prog fn.params.toList s.vars apart W args.toList ds gs before →
      conds.all (PathCond.test C.prog ⟨fn.params.toList, ds, s.plain.varTypes C.prog, gs⟩) = true →
      (DataW.weightsEach C.prog (fn.params.toList ++ s.plain.varTypes C.prog) (ds ++ gs)).all (· ≤ reachBytes) = true → X W args → W.ShapedOpen C.prog →
      a.holds C.prog (lone (Frame.enter C.prog f args .normal) [] W) →
      Calls C.prog f args W fun e W' => ∃ v, e = .returned v ∧ s.post enc C.prog fn apart fresh handsOn again W args v W') :
    ReturnsInHanded a C os f .any (fun w args => (s.pre enc C.prog fn conds apart w args ∧ X w args) ∧ sizedMet enc C.prog fn (OpenSpec.ofChange s) apart w args) (s.post enc C.prog fn apart fresh handsOn again) := by
  refine returnsInHanded_of_calls own started noInit witness ?_
  intro w tape i _ hsh _ hok hpre hholds
  obtain ⟨_, _, _, fn', hfn', _, _, _, _, hval⟩ := hok
  have e : fn' = fn := Option.some.inj (hfn'.symm.trans hfn)
  subst e
  obtain ⟨⟨⟨ds, gs, before, hw, hc⟩, hx⟩, hz⟩ := hpre
  have hw' := DataW.Whole.of_heap (w' := w.forCall tape i) (by rfl) hw
  refine (contract (w.forCall tape i) w.heap.size i.args ds gs before hval hw' hc (hz.weights hw) (hX _ _ _ (by rfl) hx) hsh hholds).mono fun e W' ⟨v, he, hp⟩ => ?_
  subst he
  exact ChangeSpec.post_blind hp
end
theorem maxAt_of_shape {W : World} (h : W.ShapedOpen Tryd.prog) : MaxAt W :=
  cell_of_shapedOpen_int (t := 3) (zero := #[.int .i64 0]) h (of_decide_eq_true (by kernel_rfl)) (by kernel_rfl) (by kernel_rfl) (by kernel_rfl) (by kernel_rfl) (by kernel_rfl)
theorem mapM_mem {α β : Type} (f : α → Option β) : ∀ (l : List α) {ys : List β}, l.mapM f = some ys → ∀ x ∈ l, ∃ y, f x = some y := by
  intro l
  induction l with
  | nil => intro ys _ x hx; cases hx
  | cons a l ih =>
    intro ys h x hx
    rw [List.mapM_cons] at h
    cases ha : f a with
    | none => rw [ha] at h; cases h
    | some y =>
      rw [ha] at h
      cases hl : l.mapM f with
      | none => rw [hl] at h; cases h
      | some zs =>
        rcases List.mem_cons.1 hx with rfl | hx
        · exact ⟨y, ha⟩
        · exact ih hl x hx
theorem u8_byte {x : Int} (h : (Lit.int .u8 x).wf = true) : ∃ n : Nat, n < 256 ∧ x = (n : Int) := by
  simp [Lit.wf, IntKind.min, IntKind.max, IntKind.signed, IntKind.bits] at h
  exact ⟨x.toNat, by omega, by omega⟩
theorem bytes_back : ∀ l : List Value, (∀ v ∈ l, ∃ n : Nat, n < 256 ∧ v = u8V n) → ∃ b : List Nat, l = b.map u8V ∧ ∀ x ∈ b, x < 256 := by
  intro l
  induction l with
  | nil => intro _; exact ⟨[], rfl, fun x hx => by cases hx⟩
  | cons v l ih =>
    intro h
    obtain ⟨n, hn, rfl⟩ := h v (List.mem_cons_self ..)
    obtain ⟨b, rfl, hb⟩ := ih fun v hv => h v (List.mem_cons_of_mem _ hv)
    exact ⟨n :: b, rfl, fun x hx => by
      rcases List.mem_cons.1 hx with rfl | hx
      · exact hn
      · exact hb x hx⟩
theorem open_v6 {H : Type} {enc : TypeId × Value → H} {w : World} {base : Nat} {spare : Nat → Bool} {held : Bool} {fuel : Nat} {l : List Value} {x : DataW H × List MemPlace} (hl : l.length = 16)
    (h : DataW.trod enc Tryd.prog w base spare held fuel 23 l = some x) : ∃ b : List Nat, l = b.map u8V ∧ ∀ x ∈ b, x < 256 := by
  cases fuel with
  | zero => simp [DataW.trod] at h
  | succ n =>
    unfold DataW.trod at h
    rw [show Tryd.prog.underlying 23 = some (.array 16 5) from Tryd.underlying23] at h
    simp only at h
    split at h
    · obtain ⟨ys, hm, _⟩ := Option.map_eq_some_iff.1 h
      refine bytes_back l fun v hv => ?_
      obtain ⟨i, hi, rfl⟩ := List.getElem_of_mem hv
      obtain ⟨y, hy⟩ := mapM_mem _ _ hm i (List.mem_range.2 (by omega))
      rw [show Tryd.prog.cellsOf 5 = 1 by kernel_rfl, Nat.mul_one, List.drop_eq_getElem_cons hi] at hy
      simp only [List.take_succ_cons, List.take_zero] at hy
      obtain ⟨z, e, _, hw⟩ := DataW.trod_int Tryd.underlying5 hy
      obtain ⟨n, hn, rfl⟩ := u8_byte hw
      exact ⟨n, hn, by simpa [u8V] using e⟩
    · cases h
end Go.Proofs.YtameipbnobaoeaaDoor
