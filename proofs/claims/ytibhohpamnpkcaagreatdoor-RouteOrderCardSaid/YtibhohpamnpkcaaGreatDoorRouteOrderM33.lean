/- The walk of RouteOrder. -/
import Derived.Test.YtibhohpamnpkcaaGreatDoorRouteOrderM30
import Derived.Test.YtibhohpamnpkcaaGreatDoorRouteOrderM31
import Derived.Test.YtibhohpamnpkcaaGreatDoorRouteOrderM32
import Derived.Deep.DeepCutAuto

namespace Go.Proofs.YtibhohpamnpkcaaGreatDoor
open Go.RowKit

/-- What the law has laid: the association, the app, the URL, the rule. -/
structure OrdAt (W : World) (g : Nat) (da : Option Addr) (dn dcap : Nat) (av : Option Addr) (vn vcap : Nat) (pa pb : ByteArray) (u : Ur) (r : Rl) : Prop where
  a : BlkAt W g 55 #[.slice da dn dcap, .slice av vn vcap]
  p : BlkAt W (g + 1) 57 #[.string pa, .string pb]
  u : UrlAt W (g + 1 + 1) u
  r : RuleAt W (g + 1 + 1 + 1) r
theorem OrdAt.below {w w' : World} {g : Nat} {da : Option Addr} {dn dcap : Nat} {av : Option Addr} {vn vcap : Nat} {pa pb : ByteArray} {u : Ur} {r : Rl} (h : OrdAt w g da dn dcap av vn vcap pa pb u r) (hb : Below w.heap.size w w') : OrdAt w' g da dn dcap av vn vcap pa pb u r := ⟨h.a.below hb, h.p.below hb, h.u.below hb, h.r.below hb⟩
theorem smallD_z {ds : List Dt} (h : ∀ d ∈ ds, SmallD d) : ∀ d ∈ ds, DtZ d := fun d hd => by
  obtain ⟨h1, h2, h3⟩ := h d hd
  refine ⟨by omega, by omega, fun x hx => ?_⟩
  obtain ⟨r1, r2, r3, r4, r5⟩ := h3 x hx
  exact ⟨by omega, by omega, by omega, by omega, fun i hi => by have := (r5 i hi).2; omega⟩
theorem smallR_z {x : Ru} (h : SmallR x) : RuZ x := by
  obtain ⟨r1, r2, r3, r4, r5⟩ := h
  exact ⟨by omega, by omega, by omega, by omega, fun i hi => by have := (r5 i hi).2; omega⟩
theorem smallV_z {vars : List SVar} (h : ∀ v ∈ vars, SmallV v) : ∀ v ∈ vars, v.2.length ≤ 16777216 ∧ ∀ s ∈ v.2, s.size ≤ 16777216 := fun v hv => by
  obtain ⟨h1, h2, h3⟩ := h v hv
  exact ⟨by omega, fun s hs => by have := h3 s hs; omega⟩
/-- What the first literal is: a row with one detail more, and its association. -/
def Post8 (ds : List Dt) (app : ByteArray × ByteArray) (x : Ru) (av : Option Addr) (vn vcap : Nat) (w : World) (p : Value) (wx : World) : Prop := ∃ (k : Nat) (b : Option Addr) (c : Nat), p = .pointer (some ⟨k, 0, none⟩) ∧ BlkAt wx k 55 #[.slice b (ds.length + 1) c, .slice av vn vcap] ∧ DetsSl wx b (ds ++ [⟨[app], [x]⟩]) ∧ Below w.heap.size w wx
set_option maxHeartbeats 12800000 in
set_option maxRecDepth 100000 in
theorem walkRO (da : Option Addr) (dcap : Nat) (ds : List Dt) (av : Option Addr) (vcap : Nat) (vars : List SVar) (pa pb : ByteArray) (u : Ur) (x : Ru) (w : World) (hl : LaidAll w) (hd : DetsM w da ds) (hv : VarsSl w av vars) (hvl : vars.length ≤ maxLen) (hvs : ∀ v ∈ vars, v.1.size ≤ maxLen ∧ v.2.length ≤ maxLen) (hu : u.path.size ≤ maxLen ∧ u.query.size ≤ maxLen ∧ u.frag.size ≤ maxLen) (hxn : x.r.ilen = x.items.length) (hxs : ItemsSl w x.r.ia x.items) (hxm : RuM x) :
    Calls Tryz.prog 4 #[.agg #[.slice da ds.length dcap, .slice av vars.length vcap], .agg #[.string pa, .string pb], .agg #[.string u.scheme, .int .i64 u.hk, .string u.host, .int .i64 u.port, .string u.path, .string u.query, .string u.frag, .bool u.hq, .bool u.hf], .agg #[.string x.r.path, .string x.r.query, .string x.r.frag, .bool x.r.hp, .bool x.r.hq, .bool x.r.hf, .slice x.r.ia x.r.ilen x.r.icap, .bool x.r.ex, .bool x.r.fold, .bool x.r.dec]] w fun e w' => e = .returned (.bool true) ∧ Below w.heap.size w w' := by
  have HF := Lib.hid (fun W (hW : Below w.heap.size w W) => (⟨hl.below hW, hd.below hW, hv.below hW, hxs.below hW⟩ : LaidAll W ∧ DetsM W da ds ∧ VarsSl W av vars ∧ ItemsSl W x.r.ia x.items))
  have HXN := Lib.hid hxn
  clear hxn
  have CG := Lib.hid (fun W (hW : Below w.heap.size w W) => great_assoc da dcap ds u av vcap vars W (HF.out W hW).2.2.1 hvl hvs (HF.out W hW).2.1 hu)
  have CR := Lib.hid (fun W (hW : Below w.heap.size w W) => great_rule x W HXN.out (HF.out W hW).2.2.2 hxm)
  have hAt : OrdAt ((((w.alloc (.cells #[.slice da ds.length dcap, .slice av vars.length vcap] 55)).alloc (.cells #[.string pa, .string pb] 57)).alloc (.cells (urA u) 59)).alloc (.cells (rlC x.r).toArray 62)) w.heap.size da ds.length dcap av vars.length vcap pa pb u x.r :=
    ⟨(((BlkAt.new _ _ _).alloc _).alloc _).alloc _, ((BlkAt.new1 _ _ _ _).alloc _).alloc _, (BlkAt.new2 _ _ _ _ _).alloc _, BlkAt.new3 _ _ _ _ _ _⟩
  have hB := below_alloc4 w (.cells #[.slice da ds.length dcap, .slice av vars.length vcap] 55) (.cells #[.string pa, .string pb] 57) (.cells (urA u) 59) (.cells (rlC x.r).toArray 62)
  obtain ⟨W0, hW0⟩ : ∃ W, W = (((w.alloc (.cells #[.slice da ds.length dcap, .slice av vars.length vcap] 55)).alloc (.cells #[.string pa, .string pb] 57)).alloc (.cells (urA u) 59)).alloc (.cells (rlC x.r).toArray 62) := ⟨_, rfl⟩
  rw [← hW0] at hAt hB
  unfold urA rlC at hW0
  have HW0 := Lib.hid hW0
  have CS := Lib.hid (fun W (hW : Below w.heap.size w W) => speaks21 W (HF.out W hW).1)
  clear hl hd hv hxs hW0 hvl hvs hu
  have CU := Lib.hid (fun W (h : OrdAt W w.heap.size da ds.length dcap av vars.length vcap pa pb u x.r) => (⟨⟨h.a.cell 0 _ rfl, h.a.cell 1 _ rfl⟩, ⟨h.p.cell 0 _ rfl, h.p.cell 1 _ rfl⟩, h.u.cells, h.r.cells⟩ : (_ ∧ _) ∧ (_ ∧ _) ∧ _ ∧ _))
  go_enter Tryz.func4, Tryz.ntmps4
  go_wp2_with fail
  rw [← HW0.out]
  clear HW0
  refine (CS.out _ hB).mono ?_
  rintro e w1 ⟨rfl, hb1⟩
  have hB1 := Bt hB hb1
  have hA1 := hAt.below hb1
  clear hB hb1 hAt CS
  obtain ⟨⟨a0, a1⟩, ⟨p0, p1⟩, ⟨u0, u1, u2, u3, u4, u5, u6, u7, u8⟩, ⟨r0, r1, r2, r3, r4, r5, r6, r7, r8, r9⟩⟩ := CU.out _ hA1
  go_wp2_with fail
  refine (CG.out _ hB1).mono ?_
  rintro e w2 ⟨hor, hb2⟩
  have hB2 := Bt hB1 hb2
  have hA2 := hA1.below hb2
  clear hB1 hb2 hA1 CG a0 a1 p0 p1 u0 u1 u2 u3 u4 u5 u6 u7 u8 r0 r1 r2 r3 r4 r5 r6 r7 r8 r9
  rcases hor with rfl | ⟨rfl, ⟨z0, z1, z2, z3, z4⟩, hsv, hsd⟩
  · go_wp2_with fail
    go_ret
    exact ⟨rfl, hB2⟩
  obtain ⟨⟨a0, a1⟩, ⟨p0, p1⟩, ⟨u0, u1, u2, u3, u4, u5, u6, u7, u8⟩, ⟨r0, r1, r2, r3, r4, r5, r6, r7, r8, r9⟩⟩ := CU.out _ hA2
  go_wp2_with fail
  refine (CR.out _ hB2).mono ?_
  rintro e w3 ⟨hor, hb3⟩
  have hB3 := Bt hB2 hb3
  have hA3 := hA2.below hb3
  clear hB2 hb3 hA2 CR a0 a1 p0 p1 u0 u1 u2 u3 u4 u5 u6 u7 u8 r0 r1 r2 r3 r4 r5 r6 r7 r8 r9
  rcases hor with rfl | ⟨rfl, hsr⟩
  · go_wp2_with fail
    go_ret
    exact ⟨rfl, hB3⟩
  have HZD := Lib.hid (smallD_z hsd)
  have HZR := Lib.hid (smallR_z hsr)
  have HZV := Lib.hid (smallV_z hsv)
  have HI := Lib.hid (fun W (hW : Below w.heap.size w W) => (⟨⟨(HF.out W hW).1.u, (HF.out W hW).1.c, (HF.out W hW).1.m, (HF.out W hW).2.2.1, by omega, HZV.out⟩, (HF.out W hW).1.h, ⟨(HF.out W hW).2.1.sl, by omega, HZD.out⟩, ⟨HXN.out, (HF.out W hW).2.2.2, HZR.out⟩, ⟨by omega, by omega, by omega⟩⟩ : Looks W av vars ∧ Handle W ∧ DetsIn W da ds ∧ RuleIn W x ∧ UrZ u))
  have HS8 := Lib.hid (show ds.length ≤ 8 ∧ SmallR x from ⟨z4, hsr⟩)
  clear HF HZD HZR HZV hsv hsd hsr hxm z0 z1 z2 z3 z4
  have CV := Lib.hid (fun W (hW : Below w.heap.size w W) => route_Verdict da dcap ds (pa, pb) u av vcap vars W (HI.out W hW).1 (HI.out W hW).2.1 (HI.out W hW).2.2.1 (HI.out W hW).2.2.2.2)
  have CN := Lib.hid (fun W (hW : Below w.heap.size w W) => route_Names da dcap ds (pa, pb) av vars.length vcap W (HI.out W hW).2.2.1)
  have HUN := Lib.hid (@unnamed ds (pa, pb) vars u)
  have HBE := Lib.hid (@behind ds (pa, pb) vars u x)
  generalize hV : verdictN ds (pa, pb) vars u = V at *
  have HV := Lib.hid hV
  clear hV
  obtain ⟨⟨a0, a1⟩, ⟨p0, p1⟩, ⟨u0, u1, u2, u3, u4, u5, u6, u7, u8⟩, ⟨r0, r1, r2, r3, r4, r5, r6, r7, r8, r9⟩⟩ := CU.out _ hA3
  go_wp2_with fail
  refine (CV.out _ hB3).mono ?_
  rintro e w4 ⟨rfl, hb4⟩
  have hB4 := Bt hB3 hb4
  have hA4 := hA3.below hb4
  clear hB3 hb4 hA3 CV a0 a1 p0 p1 u0 u1 u2 u3 u4 u5 u6 u7 u8 r0 r1 r2 r3 r4 r5 r6 r7 r8 r9
  obtain ⟨⟨a0, a1⟩, ⟨p0, p1⟩, ⟨u0, u1, u2, u3, u4, u5, u6, u7, u8⟩, ⟨r0, r1, r2, r3, r4, r5, r6, r7, r8, r9⟩⟩ := CU.out _ hA4
  go_wp2_with fail
  refine (CN.out _ hB4).mono ?_
  rintro e w5 ⟨rfl, hb5⟩
  have hB5 := Bt hB4 hb5
  have hA5 := hA4.below hb5
  clear hB4 hb5 hA4 CN a0 a1 p0 p1 u0 u1 u2 u3 u4 u5 u6 u7 u8 r0 r1 r2 r3 r4 r5 r6 r7 r8 r9
  generalize hN : namedB ds (pa, pb) = nm at *
  cases nm
  · have hV0 := HUN.out rfl
    have e0 : ((V : Int) == 0) = true := by rw [hV0]; rfl
    clear hV0
    go_wp2_with fail
    go_ret
    exact ⟨rfl, hB5⟩
  clear HUN hN
  go_upto_region 8 with (fail)
  obtain ⟨us, hus, hul, hue⟩ := (HI.out _ hB5).2.2.1.sl
  go_cut [10] (fun p wx => Post8 ds (pa, pb) x av vars.length vcap w5 p wx)
  case first =>
    obtain ⟨⟨a0, a1⟩, ⟨p0, p1⟩, _, ⟨r0, r1, r2, r3, r4, r5, r6, r7, r8, r9⟩⟩ := CU.out _ hA5
    have hds8 := HS8.out.1
    have hSl : SlP us := by
      intro u hu
      obtain ⟨i, hiu⟩ := List.getElem?_of_mem hu
      obtain ⟨d, hd⟩ : ∃ d, ds[i]? = some d := ⟨_, List.getElem?_eq_getElem (by have := (List.getElem?_eq_some_iff.1 hiu).1; omega)⟩
      obtain ⟨u', hu', hdv⟩ := hue i d hd
      rw [hiu] at hu'
      obtain rfl := Option.some.inj hu'
      obtain ⟨⟨a, c, e, _⟩, ⟨a', c', e', _⟩⟩ := hdv
      exact ⟨⟨_, _, _, e⟩, ⟨_, _, _, e'⟩⟩
    have hRI := (HI.out _ hB5).2.2.2.1
    clear CU HBE HV hB5 HI HS8
    refine region_inv (by kernel_rfl) (by kernel_rfl) (by kernel_rfl) (D8 ⟨w5, av, vars.length, vcap, da, ds.length, dcap, w.heap.size, #[.string pa, .string pb], (rlC x.r).toArray, us⟩) ?_ ?_ ?_
    · refine ⟨below_drewN (Below.refl _ _) 1, fun i hi => ?_⟩
      have hn : 16 ≤ i := none_listed hi
      obtain ⟨n, rfl⟩ : ∃ n, i = n + 16 := ⟨i - 16, by omega⟩
      trivial
    · intro L a W i o hD hF ho hi haft K hK
      have hlow := hD.low
      have hls := hlow.size
      dsimp only at hlow hls
      have e4 : a.tmps[4]?.getD undef = .pointer (some ⟨w.heap.size, 0, none⟩) := by have := (hF.slot 4 (by kernel_rfl)).trans (rfl : _ = Value.pointer (some ⟨w.heap.size, 0, none⟩)); simpa [valA] using this
      have e5 : a.tmps[5]?.getD undef = .pointer (some ⟨w.heap.size + 1, 0, none⟩) := by have := (hF.slot 5 (by kernel_rfl)).trans (rfl : _ = Value.pointer (some ⟨w.heap.size + 1, 0, none⟩)); simpa [valA] using this
      have e7 : a.tmps[7]?.getD undef = .pointer (some ⟨w.heap.size + 1 + 1 + 1, 0, none⟩) := by have := (hF.slot 7 (by kernel_rfl)).trans (rfl : _ = Value.pointer (some ⟨w.heap.size + 1 + 1 + 1, 0, none⟩)); simpa [valA] using this
      have HR := Lib.hid (lt_of_block hA5.r)
      have hrl : w.heap.size + 1 + 1 + 1 < w5.heap.size := HR.out
      have y0 := (hlow.cell (p := ⟨w.heap.size, 0, none⟩) (by show w.heap.size < _; omega)).trans a0
      have y1 := (hlow.cell (p := ⟨w.heap.size, 1, none⟩) (by show w.heap.size < _; omega)).trans a1
      have hi16 : i < 16 := (Array.getElem?_eq_some_iff.1 ho).1
      obtain rfl | rfl | rfl | rfl | rfl | rfl | rfl | rfl | rfl | rfl | rfl | rfl | rfl | rfl | rfl | rfl : i = 0 ∨ i = 1 ∨ i = 2 ∨ i = 3 ∨ i = 4 ∨ i = 5 ∨ i = 6 ∨ i = 7 ∨ i = 8 ∨ i = 9 ∨ i = 10 ∨ i = 11 ∨ i = 12 ∨ i = 13 ∨ i = 14 ∨ i = 15 := by omega
      · obtain rfl := Option.some.inj ho
        refine wp_run (v := .pointer (some ⟨w.heap.size, 1, none⟩)) (w' := W) ?_ (hK _ _ ?_)
        · simp only [execOp]
          go_simp
        · have hA : Agree8 L (valA a) (fun t => if (some 34 : Option Nat) = some t then .pointer (some ⟨w.heap.size, 1, none⟩) else valA a t) := by constructor <;> intro h <;> first | rfl | (rw [hi] at h; cases h)
          exact hD.next 0 (fun j hj h => by simpa [hj] using h) hD.low hA (Gone8.still hD hA (grown_reflD _) (fun j h => by simp [h]) (fun h => by simpa using h) (fun h => by simpa using h)) rfl
      · obtain rfl := Option.some.inj ho
        refine wp_run (v := .slice av vars.length vcap) (w' := W) ?_ (hK _ _ ?_)
        · simp only [execOp]
          have e34 : a.tmps[34]?.getD undef = .pointer (some ⟨w.heap.size, 1, none⟩) := by have := hD.g 0 (haft ⟨0, .data⟩ (by simp) rfl); simpa [G8, valA] using this
          go_simp
        · have hA : Agree8 L (valA a) (fun t => if (some 35 : Option Nat) = some t then .slice av vars.length vcap else valA a t) := by constructor <;> intro h <;> first | rfl | (rw [hi] at h; cases h)
          exact hD.next 1 (fun j hj h => by simpa [hj] using h) hD.low hA (Gone8.still hD hA (grown_reflD _) (fun j h => by simp [h]) (fun h => by simpa using h) (fun h => by simpa using h)) rfl
      · obtain rfl := Option.some.inj ho
        refine wp_run (v := .slice (some ⟨W.heap.size, 0, none⟩) 0 0) (w' := W.alloc (.cells #[] 70)) ?_ (hK _ _ ?_)
        · simp only [execOp]
          go_simp
        · have hA : Agree8 L (valA a) (fun t => if (some 36 : Option Nat) = some t then .slice (some ⟨W.heap.size, 0, none⟩) 0 0 else valA a t) := by constructor <;> intro h <;> first | rfl | (rw [hi] at h; cases h)
          exact hD.next 2 (fun j hj h => by simpa [hj] using h) (low_alloc hlow hls _) hA (⟨grown_alloc _ _, fun j h => by simp [h], fun _ => rfl, fun _ _ => rfl, fun k t d _ _ _ => by simp, fun _ => .inl rfl, fun _ => .inl rfl, fun _ => rfl, fun h11 _ _ => by
            obtain ⟨_, _, ⟨k, e45, hb45⟩, _⟩ := hD.g 11 h11
            have hkl := hb45.lt
            rw [e45]
            intro e'
            have e2 : some W.heap.size = some k := e'
            injection e2 with e2
            omega, fun h11 h5 h12 => (hD.g 11 h11).2.2.2.2 (by simpa using h5) (by simpa using h12)⟩) (fun _ => (OwnD.lit0 W).base' hls)
      · obtain rfl := Option.some.inj ho
        refine wp_run (v := .pointer (some ⟨w.heap.size, 0, none⟩)) (w' := W) ?_ (hK _ _ ?_)
        · simp only [execOp]
          go_simp
        · have hA : Agree8 L (valA a) (fun t => if (some 37 : Option Nat) = some t then .pointer (some ⟨w.heap.size, 0, none⟩) else valA a t) := by constructor <;> intro h <;> first | rfl | (rw [hi] at h; cases h)
          exact hD.next 3 (fun j hj h => by simpa [hj] using h) hD.low hA (Gone8.still hD hA (grown_reflD _) (fun j h => by simp [h]) (fun h => by simpa using h) (fun h => by simpa using h)) rfl
      · obtain rfl := Option.some.inj ho
        refine wp_run (v := .slice da ds.length dcap) (w' := W) ?_ (hK _ _ ?_)
        · simp only [execOp]
          have e37 : a.tmps[37]?.getD undef = .pointer (some ⟨w.heap.size, 0, none⟩) := by have := hD.g 3 (haft ⟨3, .data⟩ (by simp) rfl); simpa [G8, valA] using this
          go_simp
        · have hA : Agree8 L (valA a) (fun t => if (some 38 : Option Nat) = some t then .slice da ds.length dcap else valA a t) := by constructor <;> intro h <;> first | rfl | (rw [hi] at h; cases h)
          exact hD.next 4 (fun j hj h => by simpa [hj] using h) hD.low hA (Gone8.still hD hA (grown_reflD _) (fun j h => by simp [h]) (fun h => by simpa using h) (fun h => by simpa using h)) rfl
      · obtain rfl := Option.some.inj ho
        have h2 := haft ⟨2, .data⟩ (by simp) rfl
        have hown := hD.g 2 h2 hi
        have q38 : a.eval (.tmp 38) = .slice da ds.length dcap := hD.g 4 (haft ⟨4, .data⟩ (by simp) rfl)
        refine wp_app_dts rfl (.tmp 36) (.tmp 38) rfl w5.heap.size (valA a 36) [] rfl hown da ds.length dcap us hul q38 (hus.below hlow) hSl (by show 0 + ds.length ≤ _; omega) hls ?_
        intro v' w' hown' hg hf _
        rw [List.nil_append] at hown'
        have hrow : ∀ g, (valA a 36).ownBlock = some g → w5.heap.size ≤ g := fun g hg => (OwnD.lt hown hg).1
        refine hK _ _ ?_
        have hA : Agree8 L (valA a) (fun t => if (some 39 : Option Nat) = some t then v' else valA a t) := by constructor <;> intro h <;> first | rfl | (rw [hi] at h; cases h)
        refine hD.next 5 (fun j hj h => by simpa [hj] using h) (low_grow hlow hls hg hrow) hA ⟨hg, fun j h => by simp [h], fun h => by simp at h, fun h => by (rw [hi] at h; cases h), fun k t d hb hne _ e => hne (OwnD.typed hown e hb), fun h11 => .inr (fun e => (hD.g 11 h11).2.2.2.1 h2 hi e.symm), fun h12 => absurd (hD.g 12 h12).2.2.2.1 (by rw [hi]; simp), fun h15 => absurd (hD.g 12 (hD.g 15 h15).2.1).2.2.2.1 (by rw [hi]; simp), fun _ _ h => by simp at h, fun h11 _ _ e => ?_⟩ (fun _ => hown')
        obtain ⟨_, _, ⟨k, e45, hb45⟩, g3, _⟩ := hD.g 11 h11
        have eo : (valA a 45).ownBlock = some k := by rw [e45]; rfl
        rcases hf k (Eq.trans e eo) with e2 | e2
        · exact g3 h2 hi (e2.trans eo.symm)
        · have := hb45.lt; omega
      · obtain rfl := Option.some.inj ho
        refine wp_run (v := .agg #[.string pa, .string pb]) (w' := W) ?_ (hK _ _ ?_)
        · simp only [execOp]
          have z0 := (hlow.cell (p := ⟨w.heap.size + 1, 0, none⟩) (by show w.heap.size + 1 < _; omega)).trans p0
          have z1 := (hlow.cell (p := ⟨w.heap.size + 1, 1, none⟩) (by show w.heap.size + 1 < _; omega)).trans p1
          go_simp
        · have hA : Agree8 L (valA a) (fun t => if (some 40 : Option Nat) = some t then .agg #[.string pa, .string pb] else valA a t) := by constructor <;> intro h <;> first | rfl | (rw [hi] at h; cases h)
          exact hD.next 6 (fun j hj h => by simpa [hj] using h) hD.low hA (Gone8.still hD hA (grown_reflD _) (fun j h => by simp [h]) (fun h => by simpa using h) (fun h => by simpa using h)) rfl
      · obtain rfl := Option.some.inj ho
        refine wp_run (v := .slice (some ⟨W.heap.size, 0, none⟩) 1 1) (w' := W.alloc (.cells #[.string pa, .string pb] 57)) ?_ (hK _ _ ?_)
        · simp only [execOp]
          have e40 : a.tmps[40]?.getD undef = .agg #[.string pa, .string pb] := by have := hD.g 6 (haft ⟨6, .data⟩ (by simp) rfl); simpa [G8, valA] using this
          go_simp
        · have hA : Agree8 L (valA a) (fun t => if (some 41 : Option Nat) = some t then .slice (some ⟨W.heap.size, 0, none⟩) 1 1 else valA a t) := by constructor <;> intro h <;> first | rfl | (rw [hi] at h; cases h)
          exact hD.next 7 (fun j hj h => by simpa [hj] using h) (low_alloc hlow hls _) hA (Gone8.still hD hA (grown_alloc _ _) (fun j h => by simp [h]) (fun h => by simpa using h) (fun h => by simpa using h)) ⟨W.heap.size, rfl, BlkAt.new _ _ _⟩
      · obtain rfl := Option.some.inj ho
        refine wp_run (v := .agg #[.string x.r.path, .string x.r.query, .string x.r.frag, .bool x.r.hp, .bool x.r.hq, .bool x.r.hf, .slice x.r.ia x.r.ilen x.r.icap, .bool x.r.ex, .bool x.r.fold, .bool x.r.dec]) (w' := W) ?_ (hK _ _ ?_)
        · simp only [execOp]
          have z0 := (hlow.cell (p := ⟨w.heap.size + 1 + 1 + 1, 0, none⟩) (by show w.heap.size + 1 + 1 + 1 < _; omega)).trans r0
          have z1 := (hlow.cell (p := ⟨w.heap.size + 1 + 1 + 1, 1, none⟩) (by show w.heap.size + 1 + 1 + 1 < _; omega)).trans r1
          have z2 := (hlow.cell (p := ⟨w.heap.size + 1 + 1 + 1, 2, none⟩) (by show w.heap.size + 1 + 1 + 1 < _; omega)).trans r2
          have z3 := (hlow.cell (p := ⟨w.heap.size + 1 + 1 + 1, 3, none⟩) (by show w.heap.size + 1 + 1 + 1 < _; omega)).trans r3
          have z4 := (hlow.cell (p := ⟨w.heap.size + 1 + 1 + 1, 4, none⟩) (by show w.heap.size + 1 + 1 + 1 < _; omega)).trans r4
          have z5 := (hlow.cell (p := ⟨w.heap.size + 1 + 1 + 1, 5, none⟩) (by show w.heap.size + 1 + 1 + 1 < _; omega)).trans r5
          have z6 := (hlow.cell (p := ⟨w.heap.size + 1 + 1 + 1, 6, none⟩) (by show w.heap.size + 1 + 1 + 1 < _; omega)).trans r6
          have z7 := (hlow.cell (p := ⟨w.heap.size + 1 + 1 + 1, 7, none⟩) (by show w.heap.size + 1 + 1 + 1 < _; omega)).trans r7
          have z8 := (hlow.cell (p := ⟨w.heap.size + 1 + 1 + 1, 8, none⟩) (by show w.heap.size + 1 + 1 + 1 < _; omega)).trans r8
          have z9 := (hlow.cell (p := ⟨w.heap.size + 1 + 1 + 1, 9, none⟩) (by show w.heap.size + 1 + 1 + 1 < _; omega)).trans r9
          go_simp
        · have hA : Agree8 L (valA a) (fun t => if (some 42 : Option Nat) = some t then .agg #[.string x.r.path, .string x.r.query, .string x.r.frag, .bool x.r.hp, .bool x.r.hq, .bool x.r.hf, .slice x.r.ia x.r.ilen x.r.icap, .bool x.r.ex, .bool x.r.fold, .bool x.r.dec] else valA a t) := by constructor <;> intro h <;> first | rfl | (rw [hi] at h; cases h)
          exact hD.next 8 (fun j hj h => by simpa [hj] using h) hD.low hA (Gone8.still hD hA (grown_reflD _) (fun j h => by simp [h]) (fun h => by simpa using h) (fun h => by simpa using h)) rfl
      · obtain rfl := Option.some.inj ho
        refine wp_run (v := .slice (some ⟨W.heap.size, 0, none⟩) 1 1) (w' := W.alloc (.cells #[.string x.r.path, .string x.r.query, .string x.r.frag, .bool x.r.hp, .bool x.r.hq, .bool x.r.hf, .slice x.r.ia x.r.ilen x.r.icap, .bool x.r.ex, .bool x.r.fold, .bool x.r.dec] 62)) ?_ (hK _ _ ?_)
        · simp only [execOp]
          have e42 : a.tmps[42]?.getD undef = .agg #[.string x.r.path, .string x.r.query, .string x.r.frag, .bool x.r.hp, .bool x.r.hq, .bool x.r.hf, .slice x.r.ia x.r.ilen x.r.icap, .bool x.r.ex, .bool x.r.fold, .bool x.r.dec] := by have := hD.g 8 (haft ⟨8, .data⟩ (by simp) rfl); simpa [G8, valA, rlC] using this
          go_simp
        · have hA : Agree8 L (valA a) (fun t => if (some 43 : Option Nat) = some t then .slice (some ⟨W.heap.size, 0, none⟩) 1 1 else valA a t) := by constructor <;> intro h <;> first | rfl | (rw [hi] at h; cases h)
          exact hD.next 9 (fun j hj h => by simpa [hj] using h) (low_alloc hlow hls _) hA (Gone8.still hD hA (grown_alloc _ _) (fun j h => by simp [h]) (fun h => by simpa using h) (fun h => by simpa using h)) ⟨W.heap.size, rfl, BlkAt.new _ _ _⟩
      · obtain rfl := Option.some.inj ho
        have h7 := haft ⟨7, .data⟩ (by simp) rfl
        have h9 := haft ⟨9, .data⟩ (by simp) rfl
        obtain ⟨k41, q41, hb41⟩ := hD.g 7 h7
        obtain ⟨k43, q43, hb43⟩ := hD.g 9 h9
        refine wp_run (v := .agg #[.slice (some ⟨k41, 0, none⟩) 1 1, .slice (some ⟨k43, 0, none⟩) 1 1]) (w' := W) ?_ (hK _ _ ?_)
        · simp only [execOp]
          have e41 : a.tmps[41]?.getD undef = .slice (some ⟨k41, 0, none⟩) 1 1 := by simpa [valA] using q41
          have e43 : a.tmps[43]?.getD undef = .slice (some ⟨k43, 0, none⟩) 1 1 := by simpa [valA] using q43
          go_simp
        · have hA : Agree8 L (valA a) (fun t => if (some 44 : Option Nat) = some t then .agg #[.slice (some ⟨k41, 0, none⟩) 1 1, .slice (some ⟨k43, 0, none⟩) 1 1] else valA a t) := by constructor <;> intro h <;> first | rfl | (rw [hi] at h; cases h)
          exact hD.next 10 (fun j hj h => by simpa [hj] using h) hD.low hA (Gone8.still hD hA (grown_reflD _) (fun j h => by simp [h]) (fun h => by simpa using h) (fun h => by simpa using h)) ⟨h7, h9, by show _ = Value.agg #[valA a 41, valA a 43]; rw [q41, q43]; rfl⟩
      · obtain rfl := Option.some.inj ho
        obtain ⟨h7, h9, q44⟩ := hD.g 10 (haft ⟨10, .data⟩ (by simp) rfl)
        obtain ⟨k41, q41, hb41⟩ := hD.g 7 h7
        obtain ⟨k43, q43, hb43⟩ := hD.g 9 h9
        rw [q41, q43] at q44
        refine wp_run (v := .slice (some ⟨W.heap.size, 0, none⟩) 1 1) (w' := W.alloc (.cells #[.slice (some ⟨k41, 0, none⟩) 1 1, .slice (some ⟨k43, 0, none⟩) 1 1] 70)) ?_ (hK _ _ ?_)
        · simp only [execOp]
          have e44 : a.tmps[44]?.getD undef = .agg #[.slice (some ⟨k41, 0, none⟩) 1 1, .slice (some ⟨k43, 0, none⟩) 1 1] := by simpa [valA] using q44
          go_simp
        · have hA : Agree8 L (valA a) (fun t => if (some 45 : Option Nat) = some t then .slice (some ⟨W.heap.size, 0, none⟩) 1 1 else valA a t) := by constructor <;> intro h <;> first | rfl | (rw [hi] at h; cases h)
          exact hD.next 11 (fun j hj h => by simpa [hj] using h) (low_alloc hlow hls _) hA (Gone8.still hD hA (grown_alloc _ _) (fun j h => by simp [h]) (fun h => by simpa using h) (fun h => by simpa using h)) ⟨h7, h9, ⟨W.heap.size, rfl, by
            show BlkAt _ _ _ #[valA a 41, valA a 43]
            rw [q41, q43]
            exact BlkAt.new _ _ _⟩, fun h2 h5 => by
            have ho := hD.g 2 h2 (by simpa using h5)
            intro e'
            have e2 : (valA a 36).ownBlock = some W.heap.size := e'
            have := (OwnD.lt ho e2).2
            omega, fun h5 h12 => by
            have ho := hD.g 5 (by simpa using h5) (by simpa using h12)
            intro e'
            have e2 : (valA a 39).ownBlock = some W.heap.size := e'
            have := (OwnD.lt ho e2).2
            omega⟩
      · obtain rfl := Option.some.inj ho
        have h5 := haft ⟨5, .data⟩ (by simp) rfl
        have h11 := haft ⟨11, .data⟩ (by simp) rfl
        have hown := hD.g 5 h5 hi
        obtain ⟨h7, h9, ⟨k45, q45, hb45⟩, _, g4⟩ := hD.g 11 h11
        obtain ⟨k41, q41, _⟩ := hD.g 7 h7
        obtain ⟨k43, q43, _⟩ := hD.g 9 h9
        refine wp_app_dts rfl (.tmp 39) (.tmp 45) rfl w5.heap.size (valA a 39) us rfl hown (some ⟨k45, 0, none⟩) 1 1 [(valA a 41, valA a 43)] rfl q45 (pairs_lit hb45) (fun u hu => by
          obtain rfl : u = (valA a 41, valA a 43) := by simpa using hu
          exact ⟨⟨_, _, _, q41⟩, ⟨_, _, _, q43⟩⟩) (by omega) hls ?_
        intro v' w' hown' hg hf _
        have hrow : ∀ g, (valA a 39).ownBlock = some g → w5.heap.size ≤ g := fun g hg => (OwnD.lt hown hg).1
        refine hK _ _ ?_
        have hA : Agree8 L (valA a) (fun t => if (some 46 : Option Nat) = some t then v' else valA a t) := by constructor <;> intro h <;> first | rfl | (rw [hi] at h; cases h)
        exact hD.next 12 (fun j hj h => by simpa [hj] using h) (low_grow hlow hls hg hrow) hA ⟨hg, fun j h => by simp [h], fun h => by simp [h5] at h, fun _ h => by simp at h, fun k t d hb hne _ e => hne (OwnD.typed hown e hb), fun h11 => .inr (fun e => g4 h5 hi e.symm), fun h12 => by (rw [hi] at h12; cases h12), fun h15 => absurd (hD.g 15 h15).2.1 (by rw [hi]; simp), fun _ _ h => by simp [h5] at h, fun _ _ h => by simp at h⟩ ⟨h7, h9, h11, h5, hown'⟩
      · obtain rfl := Option.some.inj ho
        have h1 := haft ⟨1, .data⟩ (by simp) rfl
        have h12 := haft ⟨12, .data⟩ (by simp) rfl
        have q35 := hD.g 1 h1
        obtain ⟨b46, c46, q46, _⟩ := (hD.g 12 h12).2.2.2.2.pairs
        refine wp_run (v := .agg #[.slice b46 (us ++ [(valA a 41, valA a 43)]).length c46, .slice av vars.length vcap]) (w' := W) ?_ (hK _ _ ?_)
        · simp only [execOp]
          have e35 : a.tmps[35]?.getD undef = .slice av vars.length vcap := by simpa [G8, valA] using q35
          have e46 : a.tmps[46]?.getD undef = .slice b46 (us ++ [(valA a 41, valA a 43)]).length c46 := by simpa [valA] using q46
          generalize (us ++ [(valA a 41, valA a 43)]).length = nn at *
          go_simp
        · have hA : Agree8 L (valA a) (fun t => if (some 47 : Option Nat) = some t then .agg #[.slice b46 (us ++ [(valA a 41, valA a 43)]).length c46, .slice av vars.length vcap] else valA a t) := by constructor <;> intro h <;> first | rfl | (rw [hi] at h; cases h)
          exact hD.next 13 (fun j hj h => by simpa [hj] using h) hD.low hA (Gone8.still hD hA (grown_reflD _) (fun j h => by simp [h]) (fun h => by simpa using h) (fun h => by simpa using h)) ⟨h1, h12, by show _ = Value.agg #[valA a 46, valA a 35]; rw [q46, q35]; rfl⟩
      · obtain rfl := Option.some.inj ho
        refine wp_run (v := .pointer (some ⟨W.heap.size, 0, none⟩)) (w' := W.alloc (.cells #[.slice none 0 0, .slice none 0 0] 55)) ?_ (hK _ _ ?_)
        · simp only [execOp]
          go_simp
        · have hA : Agree8 L (valA a) (fun t => if (some 10 : Option Nat) = some t then .pointer (some ⟨W.heap.size, 0, none⟩) else valA a t) := by constructor <;> intro h <;> first | rfl | (rw [hi] at h; cases h)
          exact hD.next 14 (fun j hj h => by simpa [hj] using h) (low_alloc hlow hls _) hA (Gone8.still hD hA (grown_alloc _ _) (fun j h => by simp [h]) (fun h => by simpa using h) (fun h => by simpa using h)) ⟨W.heap.size, rfl, hls, fun _ => BlkAt.new _ _ _⟩
      · obtain rfl := Option.some.inj ho
        have h14 := haft ⟨14, .data⟩ (by simp) rfl
        have h12 := haft ⟨12, .chain⟩ (by simp) rfl
        obtain ⟨h1, _, q47⟩ := hD.g 13 (haft ⟨13, .data⟩ (by simp) rfl)
        obtain ⟨k, q10, hkb, hb10⟩ := hD.g 14 h14
        have hb := hb10 hi
        obtain ⟨h7, h9, h11, h5, hown⟩ := hD.g 12 h12
        obtain ⟨b46, c46, q46, _⟩ := hown.pairs
        have q35 := hD.g 1 h1
        refine wp_store_row 55 (.tmp 10) (.tmp 47) rfl k #[valA a 46, valA a 35] q10 q47 _ #[.slice none 0 0, .slice none 0 0] hb (by kernel_rfl) rfl (by rw [q46, show valA a 35 = .slice av vars.length vcap from q35]; simp [Value.oneCell']) (hK undef _ ?_)
        have hA : Agree8 L (valA a) (fun t => if (none : Option Nat) = some t then undef else valA a t) := by constructor <;> intro h <;> first | rfl | (rw [hi] at h; cases h)
        exact hD.next 15 (fun j hj h => by simpa [hj] using h) (low_grow hlow hls (grown_setRow _ k _) (fun g e => by injection e with e; omega)) hA ⟨grown_setRow _ k _, fun j h => by simp [h], fun h => by simp [h5] at h, fun _ h => by simp [h12] at h, fun k' t d hb' hne hor e => by
            injection e with e
            subst e
            have := hb.one hb'
            rcases hor with h | h
            · exact h this.symm
            · simp at h, fun _ => .inr (by
            obtain ⟨_, _, ⟨k45, q45, hb45⟩, _⟩ := hD.g 11 h11
            rw [q45]
            intro e
            have e2 : some k45 = some k := e
            injection e2 with e2
            subst e2
            exact absurd (hb45.one hb) (by decide)), fun _ => .inr (fun e => absurd (OwnD.typed hown e hb) (by decide)), fun h15 => by (rw [hi] at h15; cases h15), fun _ _ h => by simp [h5] at h, fun _ _ h => by simp [h12] at h⟩ ⟨h1, h12, h14, k, q10, hb.setRow _⟩
    · intro L a W hall hD hF
      obtain ⟨_, _, _, k, q10, hbk⟩ := hD.g 15 (hall 15 (by decide))
      obtain ⟨_, _, _, _, hown⟩ := hD.g 12 (hall 12 (by decide))
      obtain ⟨k41, q41, hb41⟩ := hD.g 7 (hall 7 (by decide))
      obtain ⟨k43, q43, hb43⟩ := hD.g 9 (hall 9 (by decide))
      have q35 : valA a 35 = .slice av vars.length vcap := hD.g 1 (hall 1 (by decide))
      obtain ⟨b46, c46, q46, hps⟩ := hown.pairs
      have hlow := hD.low
      have hP : Post8 ds (pa, pb) x av vars.length vcap w5 (valA a 10) W := by
        refine ⟨k, b46, c46, q10, ?_, ⟨us ++ [(valA a 41, valA a 43)], hps, by simp [hul], fun i d hd => ?_⟩, hlow⟩
        · rw [q46, q35, List.length_append, hul] at hbk
          exact hbk
        · by_cases hil : i < ds.length
          · rw [List.getElem?_append_left hil] at hd
            obtain ⟨u, hu, hdv⟩ := hue i d hd
            exact ⟨u, by rw [List.getElem?_append_left (by omega)]; exact hu, hdv.below hlow⟩
          · obtain rfl : i = ds.length := by
              have := (List.getElem?_eq_some_iff.1 hd).1
              simp at this; omega
            rw [List.getElem?_append_right (Nat.le_refl _)] at hd
            obtain rfl : d = ⟨[(pa, pb)], [x]⟩ := by simpa using hd.symm
            refine ⟨(valA a 41, valA a 43), by rw [List.getElem?_append_right (by omega)]; simp [hul], ⟨_, _, q41, apps_lit (l := [(pa, pb)]) hb41⟩, ⟨_, _, q43, rules_lit (l := [x]) (by simpa using hb43) (fun y hy => by
              obtain rfl : y = x := by simpa using hy
              exact ⟨hRI.len, hRI.sl.below hlow⟩)⟩⟩
      have HP := Lib.hid hP
      have ha := hF.outB [34, 35, 36, 37, 38, 39, 40, 41, 42, 43, 44, 45, 46, 47, 10] (by kernel_rfl)
      generalize valA a = vv at *
      clear hD hF hall q10 hbk hown q41 hb41 q43 hb43 q35 q46 hps hP hlow
      subst ha
      simp only [List.foldl_cons, List.foldl_nil, List.setIfInBounds_toArray, List.set_cons_zero, List.set_cons_succ]
      go_wp2_with fail
      go_meet
      exact HP.out
  case rest =>
    obtain ⟨k, b, c, rfl, hbk, hdt, hbl⟩ := hcut
    have hBc := Bt hB5 hbl
    have hAc := hA5.below hbl
    have hR5 := (HI.out _ hBc).2.2.2.1
    have hDI : DetsIn wc b (ds ++ [⟨[(pa, pb)], [x]⟩]) := by
      have hd5 := (HI.out _ hBc).2.2.1
      refine ⟨hdt, by have := HS8.out.1; simp; omega, fun d hd => ?_⟩
      rcases List.mem_append.1 hd with hd | hd
      · exact hd5.z d hd
      · obtain rfl : d = ⟨[(pa, pb)], [x]⟩ := by simpa using hd
        exact ⟨by show 1 ≤ 16777216; decide, by show 1 ≤ 16777216; decide, fun y hy => by
          obtain rfl : y = x := by simpa using hy
          exact hR5.z⟩
    have CV2 := Lib.hid (fun W (hW : Below w.heap.size w W) (hd : DetsIn W b (ds ++ [⟨[(pa, pb)], [x]⟩])) => route_Verdict b c (ds ++ [⟨[(pa, pb)], [x]⟩]) (pa, pb) u av vcap vars W (HI.out W hW).1 (HI.out W hW).2.1 hd (HI.out W hW).2.2.2.2)
    have hlen : (ds ++ [(⟨[(pa, pb)], [x]⟩ : Dt)]).length = ds.length + 1 := by simp
    rw [hlen] at CV2
    have CM := Lib.hid (fun W (hW : Below w.heap.size w W) => route_Matches x u av vcap vars W (HI.out W hW).1 (HI.out W hW).2.1 (HI.out W hW).2.2.2.1 (HI.out W hW).2.2.2.2)
    rw [HBE.out] at CV2
    generalize ruleP vars u x = rb at *
    obtain ⟨V2, hV2⟩ : ∃ V2, V2 = (if V = 0 then (if rb = true then (if x.r.ex = true then 2 else 1) else 0) else V) := ⟨_, rfl⟩
    rw [← hV2] at CV2
    have HV2 := Lib.hid hV2
    have c0 := hbk.cell 0 _ rfl
    have c1 := hbk.cell 1 _ rfl
    obtain ⟨⟨a0, a1⟩, ⟨p0, p1⟩, ⟨u0, u1, u2, u3, u4, u5, u6, u7, u8⟩, ⟨r0, r1, r2, r3, r4, r5, r6, r7, r8, r9⟩⟩ := CU.out _ hAc
    clear hlen HBE hV2 hdt hbl hB5 hA5 hR5 hus hul hue us
    go_wp2_with fail
    refine (CV2.out _ hBc hDI).mono ?_
    rintro e w6 ⟨rfl, hb6⟩
    have hB6 := Bt hBc hb6
    have hA6 := hAc.below hb6
    clear hBc hb6 hAc hDI hbk CV2 c0 c1 a0 a1 p0 p1 u0 u1 u2 u3 u4 u5 u6 u7 u8 r0 r1 r2 r3 r4 r5 r6 r7 r8 r9
    obtain ⟨⟨a0, a1⟩, ⟨p0, p1⟩, ⟨u0, u1, u2, u3, u4, u5, u6, u7, u8⟩, ⟨r0, r1, r2, r3, r4, r5, r6, r7, r8, r9⟩⟩ := CU.out _ hA6
    have hcase : (V = 0 ∧ rb = false ∧ V2 = 0) ∨ (V = 0 ∧ rb = true ∧ x.r.ex = true ∧ V2 = 2) ∨ (V = 0 ∧ rb = true ∧ x.r.ex = false ∧ V2 = 1) ∨ (V ≠ 0 ∧ V2 = V ∧ rb = false) ∨ (V ≠ 0 ∧ V2 = V ∧ rb = true ∧ x.r.ex = true) ∨ (V ≠ 0 ∧ V2 = V ∧ rb = true ∧ x.r.ex = false) := by
      have h := HV2.out
      by_cases hV0 : V = 0
      · rw [if_pos hV0] at h
        cases rb
        · exact .inl ⟨hV0, rfl, by simpa using h⟩
        · cases hex : x.r.ex
          · rw [hex] at h; exact .inr (.inr (.inl ⟨hV0, rfl, rfl, by simpa using h⟩))
          · rw [hex] at h; exact .inr (.inl ⟨hV0, rfl, rfl, by simpa using h⟩)
      · rw [if_neg hV0] at h
        cases rb
        · exact .inr (.inr (.inr (.inl ⟨hV0, h, rfl⟩)))
        · cases hex : x.r.ex
          · exact .inr (.inr (.inr (.inr (.inr ⟨hV0, h, rfl, rfl⟩))))
          · exact .inr (.inr (.inr (.inr (.inl ⟨hV0, h, rfl, rfl⟩))))
    clear HV2
    rcases hcase with ⟨hV, rfl, hV2⟩ | ⟨hV, rfl, hex, hV2⟩ | ⟨hV, rfl, hex, hV2⟩ | ⟨hV, hV2, rfl⟩ | ⟨hV, hV2, rfl, hex⟩ | ⟨hV, hV2, rfl, hex⟩
    all_goals
      first
        | (have e1 : ((V : Int) != 0) = false := by rw [hV]; rfl
           have e4 : ((V : Int) == 0) = true := by rw [hV]; rfl
           first
             | have e5 : ((V2 : Int) != 0) = false := by rw [hV2]; rfl
             | have e5 : ((V2 : Int) != 1) = false := by rw [hV2]; rfl
             | have e5 : ((V2 : Int) != 2) = false := by rw [hV2]; rfl)
        | (have e1 : ((V : Int) != 0) = true := by rw [bne_iff_ne]; omega
           have e4 : ((V : Int) == 0) = false := by rw [beq_eq_false_iff_ne]; omega
           have e2 : ((V2 : Int) != (V : Int)) = false := by rw [hV2]; simp)
      try (have HEX := Lib.hid hex; clear hex)
      clear hV hV2
      go_wp2_with fail
      refine (CM.out _ hB6).mono ?_
      rintro e w7 ⟨rfl, hb7⟩
      have hB7 := Bt hB6 hb7
      have hA7 := hA6.below hb7
      clear hB6 hb7 hA6 CM a0 a1 p0 p1 u0 u1 u2 u3 u4 u5 u6 u7 u8 r0 r1 r2 r3 r4 r5 r6 r7 r8 r9
      obtain ⟨⟨a0, a1⟩, ⟨p0, p1⟩, ⟨u0, u1, u2, u3, u4, u5, u6, u7, u8⟩, ⟨r0, r1, r2, r3, r4, r5, r6, r7, r8, r9⟩⟩ := CU.out _ hA7
      try rw [HEX.out] at r7
      go_upto_region 19 with (fail)
      go_upto_region 20 with (fail)
      have hb1 := ((BlkAt.new w7 #[.string pa, .string pb] 57).alloc (.cells #[.string ⟨#[]⟩, .string ⟨#[]⟩, .string ⟨#[]⟩, .bool false, .bool false, .bool false, .slice none 0 0, .bool true, .bool false, .bool false] 62)).alloc (.cells #[.slice (some ⟨w7.heap.size, 0, none⟩) 1 1, .slice (some ⟨w7.heap.size + 1, 0, none⟩) 1 1] 70)
      have hb2 := (BlkAt.new1 w7 (.cells #[.string pa, .string pb] 57) #[.string ⟨#[]⟩, .string ⟨#[]⟩, .string ⟨#[]⟩, .bool false, .bool false, .bool false, .slice none 0 0, .bool true, .bool false, .bool false] 62).alloc (.cells #[.slice (some ⟨w7.heap.size, 0, none⟩) 1 1, .slice (some ⟨w7.heap.size + 1, 0, none⟩) 1 1] 70)
      have hb3 := BlkAt.new2 w7 (.cells #[.string pa, .string pb] 57) (.cells #[.string ⟨#[]⟩, .string ⟨#[]⟩, .string ⟨#[]⟩, .bool false, .bool false, .bool false, .slice none 0 0, .bool true, .bool false, .bool false] 62) #[.slice (some ⟨w7.heap.size, 0, none⟩) 1 1, .slice (some ⟨w7.heap.size + 1, 0, none⟩) 1 1] 70
      have hB8 := Bt hB7 (below_alloc3 w7 (.cells #[.string pa, .string pb] 57) (.cells #[.string ⟨#[]⟩, .string ⟨#[]⟩, .string ⟨#[]⟩, .bool false, .bool false, .bool false, .slice none 0 0, .bool true, .bool false, .bool false] 62) (.cells #[.slice (some ⟨w7.heap.size, 0, none⟩) 1 1, .slice (some ⟨w7.heap.size + 1, 0, none⟩) 1 1] 70))
      have hA8 := hA7.below (below_alloc3 w7 (.cells #[.string pa, .string pb] 57) (.cells #[.string ⟨#[]⟩, .string ⟨#[]⟩, .string ⟨#[]⟩, .bool false, .bool false, .bool false, .slice none 0 0, .bool true, .bool false, .bool false] 62) (.cells #[.slice (some ⟨w7.heap.size, 0, none⟩) 1 1, .slice (some ⟨w7.heap.size + 1, 0, none⟩) 1 1] 70))
      clear hB7 hA7 a0 a1 p0 p1 u0 u1 u2 u3 u4 u5 u6 u7 u8 r0 r1 r2 r3 r4 r5 r6 r7 r8 r9
      generalize ((w7.alloc (.cells #[.string pa, .string pb] 57)).alloc (.cells #[.string ⟨#[]⟩, .string ⟨#[]⟩, .string ⟨#[]⟩, .bool false, .bool false, .bool false, .slice none 0 0, .bool true, .bool false, .bool false] 62)).alloc (.cells #[.slice (some ⟨w7.heap.size, 0, none⟩) 1 1, .slice (some ⟨w7.heap.size + 1, 0, none⟩) 1 1] 70) = w8 at *
      generalize hg7 : w7.heap.size = g7 at *
      clear hg7
      obtain ⟨us, hus, hul, hue⟩ := (HI.out _ hB8).2.2.1.sl
      go_cut [14] (fun p wx => Post20 ds (pa, pb) av vars.length vcap w8 p wx)
      case first =>
        obtain ⟨⟨a0, a1⟩, ⟨p0, p1⟩, _, _⟩ := CU.out _ hA8
        have hds8 := HS8.out.1
        have d0 := hb3.cell 0 _ rfl
        have d1 := hb3.cell 1 _ rfl
        clear CU hB8 HI HS8
        refine region_inv (by kernel_rfl) (by kernel_rfl) (by kernel_rfl) (D20 ⟨w8, av, vars.length, vcap, da, ds.length, dcap, w.heap.size, (.slice (some ⟨g7, 0, none⟩) 1 1, .slice (some ⟨g7 + 1, 0, none⟩) 1 1), us⟩) ?_ ?_ ?_
        · refine ⟨below_drewN (Below.refl _ _) 1, fun i hi => ?_⟩
          have hn : 10 ≤ i := none_listed hi
          obtain ⟨n, rfl⟩ : ∃ n, i = n + 10 := ⟨i - 10, by omega⟩
          trivial
        · intro L a W i o hD hF ho hi haft K hK
          have hlow := hD.low
          have hls := hlow.size
          dsimp only at hlow hls
          have e4 : a.tmps[4]?.getD undef = .pointer (some ⟨w.heap.size, 0, none⟩) := by have := (hF.slot 4 (by kernel_rfl)).trans (rfl : _ = Value.pointer (some ⟨w.heap.size, 0, none⟩)); simpa [valA] using this
          have e13 : a.tmps[13]?.getD undef = .pointer (some ⟨g7 + 1 + 1, 0, none⟩) := by have := (hF.slot 13 (by kernel_rfl)).trans (rfl : _ = Value.pointer (some ⟨g7 + 1 + 1, 0, none⟩)); simpa [valA] using this
          have hrl : w.heap.size + 1 + 1 + 1 < w8.heap.size := lt_of_block hA8.r
          have hg3 : g7 + 1 + 1 < w8.heap.size := hb3.lt
          have y0 := (hlow.cell (p := ⟨w.heap.size, 0, none⟩) (by show w.heap.size < _; omega)).trans a0
          have y1 := (hlow.cell (p := ⟨w.heap.size, 1, none⟩) (by show w.heap.size < _; omega)).trans a1
          have hi10 : i < 10 := (Array.getElem?_eq_some_iff.1 ho).1
          obtain rfl | rfl | rfl | rfl | rfl | rfl | rfl | rfl | rfl | rfl : i = 0 ∨ i = 1 ∨ i = 2 ∨ i = 3 ∨ i = 4 ∨ i = 5 ∨ i = 6 ∨ i = 7 ∨ i = 8 ∨ i = 9 := by omega
          · obtain rfl := Option.some.inj ho
            refine wp_run (v := .pointer (some ⟨w.heap.size, 1, none⟩)) (w' := W) ?_ (hK _ _ ?_)
            · simp only [execOp]
              go_simp
            · have hA : Agree20 L (valA a) (fun t => if (some 78 : Option Nat) = some t then .pointer (some ⟨w.heap.size, 1, none⟩) else valA a t) := by constructor <;> intro h <;> first | rfl | (rw [hi] at h; cases h)
              exact hD.next 0 (fun j hj h => by simpa [hj] using h) hD.low hA (Gone20.still (grown_reflD _) (fun j h => by simp [h])) rfl
          · obtain rfl := Option.some.inj ho
            refine wp_run (v := .slice av vars.length vcap) (w' := W) ?_ (hK _ _ ?_)
            · simp only [execOp]
              have e78 : a.tmps[78]?.getD undef = .pointer (some ⟨w.heap.size, 1, none⟩) := by have := hD.g 0 (haft ⟨0, .data⟩ (by simp) rfl); simpa [G20, valA] using this
              go_simp
            · have hA : Agree20 L (valA a) (fun t => if (some 79 : Option Nat) = some t then .slice av vars.length vcap else valA a t) := by constructor <;> intro h <;> first | rfl | (rw [hi] at h; cases h)
              exact hD.next 1 (fun j hj h => by simpa [hj] using h) hD.low hA (Gone20.still (grown_reflD _) (fun j h => by simp [h])) rfl
          · obtain rfl := Option.some.inj ho
            refine wp_run (v := .agg #[.slice (some ⟨g7, 0, none⟩) 1 1, .slice (some ⟨g7 + 1, 0, none⟩) 1 1]) (w' := W) ?_ (hK _ _ ?_)
            · simp only [execOp]
              have z0 := (hlow.cell (p := ⟨g7 + 1 + 1, 0, none⟩) (by show g7 + 1 + 1 < _; omega)).trans d0
              have z1 := (hlow.cell (p := ⟨g7 + 1 + 1, 1, none⟩) (by show g7 + 1 + 1 < _; omega)).trans d1
              go_simp
            · have hA : Agree20 L (valA a) (fun t => if (some 80 : Option Nat) = some t then .agg #[.slice (some ⟨g7, 0, none⟩) 1 1, .slice (some ⟨g7 + 1, 0, none⟩) 1 1] else valA a t) := by constructor <;> intro h <;> first | rfl | (rw [hi] at h; cases h)
              exact hD.next 2 (fun j hj h => by simpa [hj] using h) hD.low hA (Gone20.still (grown_reflD _) (fun j h => by simp [h])) rfl
          · obtain rfl := Option.some.inj ho
            refine wp_run (v := .slice (some ⟨W.heap.size, 0, none⟩) 1 1) (w' := W.alloc (.cells #[.slice (some ⟨g7, 0, none⟩) 1 1, .slice (some ⟨g7 + 1, 0, none⟩) 1 1] 70)) ?_ (hK _ _ ?_)
            · simp only [execOp]
              have e80 : a.tmps[80]?.getD undef = .agg #[.slice (some ⟨g7, 0, none⟩) 1 1, .slice (some ⟨g7 + 1, 0, none⟩) 1 1] := by have := hD.g 2 (haft ⟨2, .data⟩ (by simp) rfl); simpa [G20, valA] using this
              go_simp
            · have hA : Agree20 L (valA a) (fun t => if (some 81 : Option Nat) = some t then .slice (some ⟨W.heap.size, 0, none⟩) 1 1 else valA a t) := by constructor <;> intro h <;> first | rfl | (rw [hi] at h; cases h)
              exact hD.next 3 (fun j hj h => by simpa [hj] using h) (low_alloc hlow hls _) hA (Gone20.still (grown_alloc _ _) (fun j h => by simp [h])) (fun _ => (OwnD.lit1 W _ _).base' hls)
          · obtain rfl := Option.some.inj ho
            refine wp_run (v := .pointer (some ⟨w.heap.size, 0, none⟩)) (w' := W) ?_ (hK _ _ ?_)
            · simp only [execOp]
              go_simp
            · have hA : Agree20 L (valA a) (fun t => if (some 82 : Option Nat) = some t then .pointer (some ⟨w.heap.size, 0, none⟩) else valA a t) := by constructor <;> intro h <;> first | rfl | (rw [hi] at h; cases h)
              exact hD.next 4 (fun j hj h => by simpa [hj] using h) hD.low hA (Gone20.still (grown_reflD _) (fun j h => by simp [h])) rfl
          · obtain rfl := Option.some.inj ho
            refine wp_run (v := .slice da ds.length dcap) (w' := W) ?_ (hK _ _ ?_)
            · simp only [execOp]
              have e82 : a.tmps[82]?.getD undef = .pointer (some ⟨w.heap.size, 0, none⟩) := by have := hD.g 4 (haft ⟨4, .data⟩ (by simp) rfl); simpa [G20, valA] using this
              go_simp
            · have hA : Agree20 L (valA a) (fun t => if (some 83 : Option Nat) = some t then .slice da ds.length dcap else valA a t) := by constructor <;> intro h <;> first | rfl | (rw [hi] at h; cases h)
              exact hD.next 5 (fun j hj h => by simpa [hj] using h) hD.low hA (Gone20.still (grown_reflD _) (fun j h => by simp [h])) rfl
          · obtain rfl := Option.some.inj ho
            have h3 := haft ⟨3, .data⟩ (by simp) rfl
            have hown := hD.g 3 h3 hi
            have q83 : a.eval (.tmp 83) = .slice da ds.length dcap := hD.g 5 (haft ⟨5, .data⟩ (by simp) rfl)
            refine wp_app_dts rfl (.tmp 81) (.tmp 83) rfl w8.heap.size (valA a 81) [(.slice (some ⟨g7, 0, none⟩) 1 1, .slice (some ⟨g7 + 1, 0, none⟩) 1 1)] rfl hown da ds.length dcap us hul q83 (hus.below hlow) (slP_of hul hue) (by show 1 + ds.length ≤ _; omega) hls ?_
            intro v' w' hown' hg hf _
            have hrow : ∀ g, (valA a 81).ownBlock = some g → w8.heap.size ≤ g := fun g hg => (OwnD.lt hown hg).1
            refine hK _ _ ?_
            have hA : Agree20 L (valA a) (fun t => if (some 84 : Option Nat) = some t then v' else valA a t) := by constructor <;> intro h <;> first | rfl | (rw [hi] at h; cases h)
            exact hD.next 6 (fun j hj h => by simpa [hj] using h) (low_grow hlow hls hg hrow) hA ⟨hg, fun j h => by simp [h], fun h => by simp at h, fun k t d hb hne _ e => hne (OwnD.typed hown e hb), fun h => by (rw [hi] at h; cases h), fun h9 => absurd (hD.g 9 h9).2.1 (by rw [hi]; simp)⟩ hown'
          · obtain rfl := Option.some.inj ho
            have h1 := haft ⟨1, .data⟩ (by simp) rfl
            have h6 := haft ⟨6, .data⟩ (by simp) rfl
            have q79 := hD.g 1 h1
            obtain ⟨b84, c84, q84, _⟩ := OwnD.pairs (hD.g 6 h6)
            refine wp_run (v := .agg #[.slice b84 ((.slice (some ⟨g7, 0, none⟩) 1 1, .slice (some ⟨g7 + 1, 0, none⟩) 1 1) :: us).length c84, .slice av vars.length vcap]) (w' := W) ?_ (hK _ _ ?_)
            · simp only [execOp]
              have e79 : a.tmps[79]?.getD undef = .slice av vars.length vcap := by simpa [G20, valA] using q79
              have e84 : a.tmps[84]?.getD undef = .slice b84 ((.slice (some ⟨g7, 0, none⟩) 1 1, .slice (some ⟨g7 + 1, 0, none⟩) 1 1) :: us).length c84 := by have := q84; unfold valA at this; rw [← this]; simp
              generalize ((.slice (some ⟨g7, 0, none⟩) 1 1, .slice (some ⟨g7 + 1, 0, none⟩) 1 1) :: us).length = nn at *
              go_simp
            · have hA : Agree20 L (valA a) (fun t => if (some 85 : Option Nat) = some t then .agg #[.slice b84 ((.slice (some ⟨g7, 0, none⟩) 1 1, .slice (some ⟨g7 + 1, 0, none⟩) 1 1) :: us).length c84, .slice av vars.length vcap] else valA a t) := by constructor <;> intro h <;> first | rfl | (rw [hi] at h; cases h)
              exact hD.next 7 (fun j hj h => by simpa [hj] using h) hD.low hA (Gone20.still (grown_reflD _) (fun j h => by simp [h])) ⟨h1, h6, by show _ = Value.agg #[valA a 84, valA a 79]; rw [q84, q79]; rfl⟩
          · obtain rfl := Option.some.inj ho
            refine wp_run (v := .pointer (some ⟨W.heap.size, 0, none⟩)) (w' := W.alloc (.cells #[.slice none 0 0, .slice none 0 0] 55)) ?_ (hK _ _ ?_)
            · simp only [execOp]
              go_simp
            · have hA : Agree20 L (valA a) (fun t => if (some 14 : Option Nat) = some t then .pointer (some ⟨W.heap.size, 0, none⟩) else valA a t) := by constructor <;> intro h <;> first | rfl | (rw [hi] at h; cases h)
              exact hD.next 8 (fun j hj h => by simpa [hj] using h) (low_alloc hlow hls _) hA (Gone20.still (grown_alloc _ _) (fun j h => by simp [h])) ⟨W.heap.size, rfl, hls, fun _ => BlkAt.new _ _ _⟩
          · obtain rfl := Option.some.inj ho
            have h8 := haft ⟨8, .data⟩ (by simp) rfl
            have h6 := haft ⟨6, .chain⟩ (by simp) rfl
            obtain ⟨h1, _, q85⟩ := hD.g 7 (haft ⟨7, .data⟩ (by simp) rfl)
            obtain ⟨k, q14, hkb, hb14⟩ := hD.g 8 h8
            have hb := hb14 hi
            have hown := hD.g 6 h6
            obtain ⟨b84, c84, q84, _⟩ := OwnD.pairs hown
            have q79 := hD.g 1 h1
            refine wp_store_row 55 (.tmp 14) (.tmp 85) rfl k #[valA a 84, valA a 79] q14 q85 _ #[.slice none 0 0, .slice none 0 0] hb (by kernel_rfl) rfl (by rw [q84, show valA a 79 = .slice av vars.length vcap from q79]; simp [Value.oneCell']) (hK undef _ ?_)
            have hA : Agree20 L (valA a) (fun t => if (none : Option Nat) = some t then undef else valA a t) := by constructor <;> intro h <;> first | rfl | (rw [hi] at h; cases h)
            exact hD.next 9 (fun j hj h => by simpa [hj] using h) (low_grow hlow hls (grown_setRow _ k _) (fun g e => by injection e with e; omega)) hA ⟨grown_setRow _ k _, fun j h => by simp [h], fun h => by simp [h6] at h, fun k' t d hb' hne hor e => by
                injection e with e
                subst e
                have := hb.one hb'
                rcases hor with h | h
                · exact h this.symm
                · simp at h, fun _ => .inr (fun e => absurd (OwnD.typed hown e hb) (by decide)), fun h9 => by (rw [hi] at h9; cases h9)⟩ ⟨h1, h6, h8, k, q14, hb.setRow _⟩
        · intro L a W hall hD hF
          obtain ⟨_, _, _, k, q14, hbk⟩ := hD.g 9 (hall 9 (by decide))
          have hown := hD.g 6 (hall 6 (by decide))
          have q79 : valA a 79 = .slice av vars.length vcap := hD.g 1 (hall 1 (by decide))
          obtain ⟨b84, c84, q84, hps⟩ := OwnD.pairs hown
          have hlow := hD.low
          have hP : Post20 ds (pa, pb) av vars.length vcap w8 (valA a 14) W := by
            refine ⟨k, b84, c84, q14, ?_, ⟨(.slice (some ⟨g7, 0, none⟩) 1 1, .slice (some ⟨g7 + 1, 0, none⟩) 1 1) :: us, hps, by simp [hul], fun i d hd => ?_⟩, hlow⟩
            · rw [q84, q79, List.length_cons, hul] at hbk
              exact hbk
            · cases i with
              | zero =>
                obtain rfl : d = ⟨[(pa, pb)], [noneRu]⟩ := by simpa using hd.symm
                exact ⟨_, rfl, ⟨_, _, rfl, apps_lit (l := [(pa, pb)]) (hb1.below hlow)⟩, ⟨_, _, rfl, rules_lit (l := [noneRu]) (hb2.below hlow) (fun y hy => by
                  obtain rfl : y = noneRu := by simpa using hy
                  exact ⟨rfl, fun i p hp => by simp [noneRu] at hp⟩)⟩⟩
              | succ i =>
                obtain ⟨u, hu, hdv⟩ := hue i d (by simpa using hd)
                exact ⟨u, by simpa using hu, hdv.below hlow⟩
          have HP := Lib.hid hP
          have ha := hF.outB [78, 79, 80, 81, 82, 83, 84, 85, 14] (by kernel_rfl)
          generalize valA a = vv at *
          clear hD hF hall q14 hbk hown q79 q84 hps hP hlow
          subst ha
          simp only [List.foldl_cons, List.foldl_nil, List.setIfInBounds_toArray, List.set_cons_zero, List.set_cons_succ]
          go_wp2_with fail
          go_meet
          exact HP.out
      case rest =>
        obtain ⟨k2, b2, c2, rfl, hbk2, hdt2, hbl2⟩ := hcut
        have hBd := Bt hB8 hbl2
        have hAd := hA8.below hbl2
        have hDI2 : DetsIn wc b2 (⟨[(pa, pb)], [noneRu]⟩ :: ds) := by
          have hd5 := (HI.out _ hBd).2.2.1
          refine ⟨hdt2, by have := HS8.out.1; simp; omega, fun d hd => ?_⟩
          rcases List.mem_cons.1 hd with rfl | hd
          · exact ⟨by show 1 ≤ 16777216; decide, by show 1 ≤ 16777216; decide, fun y hy => by
              obtain rfl : y = noneRu := by simpa using hy
              exact ruZ_of (by decide) (by decide) (by decide) rfl⟩
          · exact hd5.z d hd
        have CV3 := Lib.hid (route_Verdict b2 c2 (⟨[(pa, pb)], [noneRu]⟩ :: ds) (pa, pb) u av vcap vars wc (HI.out wc hBd).1 (HI.out wc hBd).2.1 hDI2 (HI.out wc hBd).2.2.2.2)
        rw [List.length_cons, ahead noneRu (rule_none rfl rfl rfl rfl) rfl] at CV3
        have s0 := hbk2.cell 0 _ rfl
        have s1 := hbk2.cell 1 _ rfl
        obtain ⟨⟨a0, a1⟩, ⟨p0, p1⟩, ⟨u0, u1, u2, u3, u4, u5, u6, u7, u8⟩, ⟨r0, r1, r2, r3, r4, r5, r6, r7, r8, r9⟩⟩ := CU.out _ hAd
        clear hdt2 hbl2 hB8 hA8 hus hul hue us hDI2 hb1 hb2 hb3 HI
        go_wp2_with fail
        refine CV3.out.mono ?_
        rintro e w9 ⟨rfl, hb9⟩
        have hB9 := Bt hBd hb9
        clear hBd hb9 hAd hbk2 CV3 s0 s1 a0 a1 p0 p1 u0 u1 u2 u3 u4 u5 u6 u7 u8 r0 r1 r2 r3 r4 r5 r6 r7 r8 r9
        go_wp2_with fail
        go_ret
        exact ⟨rfl, hB9⟩
theorem walkRouteOrder (da : Option Addr) (dcap : Nat) (ds : List Dt) (av : Option Addr) (vcap : Nat) (vars : List SVar) (pa pb : ByteArray) (u : Ur) (x : Ru) (w : World) (h1 : Handle w) (h2 : Utf8Laid w) (h3 : ClassLaid w) (h4 : MaxAt w) (hd : DetsM w da ds) (hv : VarsSl w av vars) (hvl : vars.length ≤ maxLen) (hvs : ∀ v ∈ vars, v.1.size ≤ maxLen ∧ v.2.length ≤ maxLen) (hu : u.path.size ≤ maxLen ∧ u.query.size ≤ maxLen ∧ u.frag.size ≤ maxLen) (hxn : x.r.ilen = x.items.length) (hxs : ItemsSl w x.r.ia x.items) (hxm : RuM x) :
    Calls Tryz.prog 4 #[.agg #[.slice da ds.length dcap, .slice av vars.length vcap], .agg #[.string pa, .string pb], .agg #[.string u.scheme, .int .i64 u.hk, .string u.host, .int .i64 u.port, .string u.path, .string u.query, .string u.frag, .bool u.hq, .bool u.hf], .agg #[.string x.r.path, .string x.r.query, .string x.r.frag, .bool x.r.hp, .bool x.r.hq, .bool x.r.hf, .slice x.r.ia x.r.ilen x.r.icap, .bool x.r.ex, .bool x.r.fold, .bool x.r.dec]] w fun e w' => e = .returned (.bool true) ∧ Below w.heap.size w w' :=
  walkRO da dcap ds av vcap vars pa pb u x w ⟨h1, h2, h3, h4⟩ hd hv hvl hvs hu hxn hxs hxm
end Go.Proofs.YtibhohpamnpkcaaGreatDoor
