/- The walk of WirePlays. -/
import Derived.Test.YtibhohpamnpkcaaGreatDoorWirePlaysM9
import Derived.Test.YtibhohpamnpkcaaGreatDoorWirePlaysM19
import Derived.Test.YtibhohpamnpkcaaGreatDoorWirePlaysM20

namespace Go.Proofs.YtibhohpamnpkcaaGreatDoor
open Go.RowKit

theorem first_eq {l : List Wt} {i j : Nat} {x y : Wt} {id : Int} (hx : l[i]? = some x) (hy : l[j]? = some y) (h1 : x.r.id = id) (h2 : y.r.id = id) (h3 : ∀ z ∈ l.take i, z.r.id ≠ id) (h4 : ∀ z ∈ l.take j, z.r.id ≠ id) : i = j := by
  have key : ∀ {i j : Nat} {x : Wt}, l[i]? = some x → x.r.id = id → (∀ z ∈ l.take j, z.r.id ≠ id) → ¬ i < j := fun {i j x} hx h1 h4 hij => by
    refine h4 x ?_ h1
    refine List.mem_of_getElem? (i := i) ?_
    rw [List.getElem?_take_of_lt hij]
    exact hx
  have := key hx h1 h4
  have := key hy h2 h3
  omega
set_option maxHeartbeats 12800000 in
set_option maxRecDepth 100000 in
theorem walkWirePlays (a : Option Addr) (S : List OpW) (cap : Nat) (w : World) (hH : Handle w) (_ : Utf8Laid w) (hl : S.length ≤ maxLen) (hs : OpsSl w a S) (_ : sizedO S) :
    Calls Tryz.prog 3 #[.slice a S.length cap] w fun e w' => e = .returned (.bool true) ∧ Below w.heap.size w w' := by
  unfold maxLen at hl
  go_enter Tryz.func3, Tryz.ntmps3
  go_wp2_with fail
  refine (speaks26 _ hH).mono ?_
  rintro e w1 ⟨rfl, hb1⟩
  by_cases h1 : 200 < S.length
  · have e1 : (200 : Int) < (S.length : Int) := by omega
    clear h1
    go_wp2_with fail
    go_ret
    exact ⟨rfl, hb1⟩
  have e1 : ¬ (200 : Int) < (S.length : Int) := by omega
  go_wp2_with fail
  refine (wire_New _).mono ?_
  rintro e w2 ⟨rfl, hbk2, hb2⟩
  have hb02 := Bt hb1 hb2
  have hbs := hb1.size
  have hbm := hbk2.cell0
  have hbm2 : w1.heap.size < w2.heap.size := by obtain ⟨_, _, _, _, _, h, _⟩ := hbm; exact h
  clear hbm
  generalize hbb : w1.heap.size = b at *
  have hal : Below w2.heap.size w2 (w2.alloc (.cells #[.slice none 0 0, .slice none 0 0, .int .u64 0] 31)) := (Below.refl _ _).alloc (Nat.le_refl _) _
  have HBA := Lib.hid (show BothAt (w2.alloc (.cells #[.slice none 0 0, .slice none 0 0, .int .u64 0] 31)) b w2.heap.size [] 0 from ⟨hbk2.below hal, _, _, Nat.le_of_lt hbm2, heap_alloc_new _ _, OwnR.nil _ _, World.ownsRow_nil _ _ _ _⟩)
  have HB02 := Lib.hid (Bt hb02 hal)
  have hbm3 : b < w2.heap.size := hbm2
  have HS := Lib.hid hs
  have HHA := Lib.hid hH
  clear hs hH hb1 hb2 hb02 e1 hbk2 hal hbm2
  generalize hmm : w2.heap.size = m at *
  go_wp2_with fail
  go_loopw [5, 24] (fun t x wr => ∃ (i last : Nat) (l : List Wt) (now : Int), i ≤ S.length ∧ t = .int .u64 now ∧ x = .int .i64 i ∧ BothAt wr b m l last ∧ l.length ≤ last ∧ last ≤ i ∧ Below w.heap.size w wr) (fun _ x _ => S.length - (intOf x).toNat)
  case atStart => exact ⟨0, 0, [], 0, Nat.zero_le _, rfl, rfl, HBA.out, Nat.le_refl _, Nat.le_refl _, HB02.out⟩
  case round =>
    obtain ⟨i, last, l, now, hil, rfl, rfl, hba, hll, hli, hbr⟩ := hrel
    clear HBA HB02
    by_cases hlt : i < S.length
    · have hiI : (i : Int) < (S.length : Int) := by omega
      obtain ⟨x, hx⟩ : ∃ x, S[i]? = some x := ⟨_, List.getElem?_eq_getElem hlt⟩
      obtain ⟨sb, off, ha, hsb, c0, c1, c2, c3, c4, c5, c6, c7⟩ := (HS.out.below hbr) i x hx
      obtain ⟨xk, xt, ⟨x0, x1, x2, x3, x4, x5⟩⟩ := x
      simp only at c0 c1 c2 c3 c4 c5 c6 c7
      have hal : Below wr.heap.size wr (wr.alloc (.cells #[.int .i64 xk, .int .u64 xt, .int .u64 x0, .string x1, .bool x2, .int .i64 x3, .string x4, .string x5] 37)) := (Below.refl _ _).alloc (Nat.le_refl _) _
      have hqo := heap_alloc_new wr (.cells #[.int .i64 xk, .int .u64 xt, .int .u64 x0, .string x1, .bool x2, .int .i64 x3, .string x4, .string x5] 37)
      have hbo := Bt hbr hal
      have hbao := hba.below hal
      have hlo : l.length ≤ 1000 := by omega
      have hb0 : w.heap.size ≤ b := by omega
      clear hx hba hbr
      subst ha
      have HQO := Lib.hid hqo
      have HBO := Lib.hid hbo
      have HBAO := Lib.hid hbao
      clear hqo hbo hbao
      by_cases hg5 : 300 < x5.size
      · have e5 : (300 : Int) < (x5.size : Int) := by omega
        clear hg5
        go_wp2_with fail
        go_ret
        exact ⟨rfl, HBO.out⟩
      have e5 : ¬ (300 : Int) < (x5.size : Int) := by omega
      by_cases hg1 : 300 < x1.size
      · have e6 : (300 : Int) < (x1.size : Int) := by omega
        clear hg5 hg1
        go_wp2_with fail
        go_ret
        exact ⟨rfl, HBO.out⟩
      have e6 : ¬ (300 : Int) < (x1.size : Int) := by omega
      by_cases hg4 : 300 < x4.size
      · have e7 : (300 : Int) < (x4.size : Int) := by omega
        clear hg5 hg1 hg4
        go_wp2_with fail
        go_ret
        exact ⟨rfl, HBO.out⟩
      have e7 : ¬ (300 : Int) < (x4.size : Int) := by omega
      have hx4 : x4.size ≤ 1000 := by omega
      clear hg5 hg1 hg4
      go_upto_block 2 with (fail)
      generalize bits BinOp.and IntKind.i64 xk 7 = kk at *
      generalize IntKind.u64.wrap (now + bits BinOp.and IntKind.u64 xt 255) = nw at *
      have hcls : (wr.alloc (.cells #[.int .i64 xk, .int .u64 xt, .int .u64 x0, .string x1, .bool x2, .int .i64 x3, .string x4, .string x5] 37)).heap.size = wr.heap.size + 1 := by simp
      generalize wr.alloc (.cells #[.int .i64 xk, .int .u64 xt, .int .u64 x0, .string x1, .bool x2, .int .i64 x3, .string x4, .string x5] 37) = W0 at *
      have hmr : m < W0.heap.size := by obtain ⟨_, _, _, h⟩ := HBAO.out; exact lt_of_block h.2.1
      go_cut [8, 9, 10, 11] (fun _ _ _ _ wx => ∃ (l2 : List Wt) (last2 : Nat), BothAt wx b m l2 last2 ∧ l2.length ≤ last2 ∧ last2 ≤ i + 1 ∧ Below w.heap.size w wx ∧ wx.heap[wr.heap.size]? = some (.cells #[.int .i64 xk, .int .u64 xt, .int .u64 x0, .string x1, .bool x2, .int .i64 x3, .string x4, .string x5] 37 (0, 0)))
      case first =>
        obtain ⟨hbk, v2, z2, hbr⟩ := HBAO.out
        have hwm : w.heap.size ≤ m := by omega
        by_cases k0 : kk = 0
        · have e0 : (kk == 0) = true := by rw [k0]; rfl
          have CL := Lib.hid (book_Late b b last l nw _ hbk hlo)
          have CM := Lib.hid (fun (W : World) v z (h : BookR W b m v z l last) => ref26_Late m b last v z l nw W h hlo)
          generalize lateB nw = P at CL CM
          have HBR := Lib.hid hbr
          clear k0 hbk hbr
          go_wp2_with fail
          refine CL.out.mono ?_
          rintro e w4 ⟨v, rfl, hown, hbk4, hlow4, hty4⟩
          have hbr4 := HBR.out.typed hty4
          have hqo4 := hty4 _ _ _ HQO.out (by decide) (by decide)
          have CM4 := Lib.hid (CM.out _ _ _ hbr4)
          have HX4 := Lib.hid (show OwnR w4 W0.heap.size v ((l.filter P).map (·.r)) ∧ BookAt w4 b b (l.filter fun x => !P x) last ∧ Below w.heap.size w w4 ∧ BookR w4 b m v2 z2 l last ∧ w4.heap[wr.heap.size]? = some (.cells #[.int .i64 xk, .int .u64 xt, .int .u64 x0, .string x1, .bool x2, .int .i64 x3, .string x4, .string x5] 37 (0, 0)) from ⟨hown, hbk4, low_trans HBO.out (hlow4.mono hb0), hbr4, hqo4⟩)
          clear hown hbk4 hlow4 hty4 hbr4 hqo4
          go_wp2_with fail
          refine CM4.out.mono ?_
          rintro e w6 ⟨v6, rfl, hown6, hgr6, v7, z7, hbr6⟩
          obtain ⟨hown, hbk4, hbel4, hbr4, hqo4⟩ := HX4.out
          have hty6 := TypedR.grownM hgr6 hbr4.2.1
          have hown46 : OwnR w6 W0.heap.size v ((l.filter P).map (·.r)) := hown.block fun g hg => hgr6.block g (hown.lt hg).2 (fun e => absurd (own_typed hown (hg.trans e) hbr4.2.1) (by decide))
          have HX6 := Lib.hid (show BothAt w6 b m (l.filter fun x => !P x) last ∧ Below w.heap.size w w6 ∧ w6.heap[wr.heap.size]? = some (.cells #[.int .i64 xk, .int .u64 xt, .int .u64 x0, .string x1, .bool x2, .int .i64 x3, .string x4, .string x5] 37 (0, 0)) from ⟨⟨hbk4.typedR hty6, v7, z7, hbr6⟩, hbel4.grown hgr6 hbel4.size (fun j hj => by injection hj with hj; omega), hty6 _ _ _ hqo4 (by decide) (by decide) (by decide)⟩)
          have CS := Lib.hid (ref26_Same v v6 _ _ _ _ w6 hown46 hown6 (by rw [List.length_map]; have := List.length_filter_le P l; omega))
          clear hown hbk4 hbel4 hbr4 hqo4 hty6 hown46 hown6 hgr6 hbr6
          go_wp2_with fail
          refine CS.out.mono ?_
          rintro e w9 ⟨rfl, k9, rfl⟩
          have hd : Below w6.heap.size w6 (w6.drewN k9) := below_drewN (Below.refl _ _) k9
          have hdec : decide ((l.filter P).map (·.r) = (l.filter P).map (·.r)) = true := decide_eq_true rfl
          generalize decide ((l.filter P).map (·.r) = (l.filter P).map (·.r)) = dd at *
          subst hdec
          go_wp2_with fail
          go_meet
          exact ⟨_, last, HX6.out.1.below hd, by have := List.length_filter_le (fun x => !P x) l; omega, by omega, Bt HX6.out.2.1 hd, HX6.out.2.2⟩
        by_cases k1 : kk = 1
        · have e0 : (kk == 0) = false := by rw [k1]; rfl
          have e1 : (kk == 1) = true := by rw [k1]; rfl
          have CL := Lib.hid (fun (W : World) (h : BookAt W b b l last) => book_Drop b b last l x1 x4 x3 W h hlo)
          have CM := Lib.hid (fun (W : World) v z (h : BookR W b m v z l last) => ref26_Drop m b last v z l x1 x4 x3 W h hlo)
          generalize dropB x1 x3 x4 = P at CL CM
          have hdr : Below W0.heap.size W0 W0.drew := (Below.refl _ _).drew
          have HBKD := Lib.hid (hbk.below hdr)
          have HBRD := Lib.hid (hbr.typed (Typed.of_below hdr))
          have HQD : Lib.hid (show W0.drew.heap[wr.heap.size]? = some (.cells #[.int .i64 xk, .int .u64 xt, .int .u64 x0, .string x1, .bool x2, .int .i64 x3, .string x4, .string x5] 37 (0, 0)) from HQO.out) = Lib.hid HQO.out := rfl
          have HBD := Lib.hid (Bt HBO.out hdr)
          have d3 : W0.cell? ⟨wr.heap.size, 3, none⟩ = some (.string x1) := (cell_of_row _ _ 3 _ _ _ HQO.out).trans rfl
          have d5 : W0.cell? ⟨wr.heap.size, 5, none⟩ = some (.int .i64 x3) := (cell_of_row _ _ 5 _ _ _ HQO.out).trans rfl
          have d6 : W0.cell? ⟨wr.heap.size, 6, none⟩ = some (.string x4) := (cell_of_row _ _ 6 _ _ _ HQO.out).trans rfl
          clear HQD k0 k1 hbk hbr hdr
          go_upto_region 21 with (fail)
          go_region_held (fun W => W.cell? ⟨wr.heap.size, 3, none⟩ = some (.string x1) ∧ W.cell? ⟨wr.heap.size, 5, none⟩ = some (.int .i64 x3) ∧ W.cell? ⟨wr.heap.size, 6, none⟩ = some (.string x4)) (first | assumption | exact ⟨d3, d5, d6⟩ | exact ⟨(cell_of_row _ _ 3 _ _ _ (by assumption)).trans rfl, (cell_of_row _ _ 5 _ _ _ (by assumption)).trans rfl, (cell_of_row _ _ 6 _ _ _ (by assumption)).trans rfl⟩)
            (first
            | (go_at_call 10; refine (CL.out _ HBKD.out).mono ?_; rintro e w6 ⟨rfl, hbk6, hlow6, hty6⟩; have hq6 : w6.heap[wr.heap.size]? = some (.cells #[.int .i64 xk, .int .u64 xt, .int .u64 x0, .string x1, .bool x2, .int .i64 x3, .string x4, .string x5] 37 (0, 0)) := hty6 _ _ _ HQO.out (by decide) (by decide); have hbr6 := HBRD.out.typed hty6; have hbe6 := low_trans HBD.out (hlow6.mono hb0); dsimp only)
            | (go_at_call 11; refine (CM.out _ _ _ HBRD.out).mono ?_; rintro e w6 ⟨rfl, hgr6, v7, z7, hbr6⟩; have hty6 := TypedR.grownM hgr6 HBRD.out.2.1; have hq6 : w6.heap[wr.heap.size]? = some (.cells #[.int .i64 xk, .int .u64 xt, .int .u64 x0, .string x1, .bool x2, .int .i64 x3, .string x4, .string x5] 37 (0, 0)) := hty6 _ _ _ HQO.out (by decide) (by decide) (by decide); have hbk6 := HBKD.out.typedR hty6; have hbe6 := HBD.out.grown hgr6 HBD.out.size (fun j hj => by injection hj with hj; omega); dsimp only)
            | (go_at_call 10; refine (CL.out _ hbk6).mono ?_; rintro e w8 ⟨rfl, hbk8, hlow8, hty8⟩; have hq8 : w8.heap[wr.heap.size]? = some (.cells #[.int .i64 xk, .int .u64 xt, .int .u64 x0, .string x1, .bool x2, .int .i64 x3, .string x4, .string x5] 37 (0, 0)) := hty8 _ _ _ hq6 (by decide) (by decide); have hbr8 := hbr6.typed hty8; have hbe8 := low_trans hbe6 (hlow8.mono hb0); dsimp only)
            | (go_at_call 11; refine (CM.out _ _ _ hbr6).mono ?_; rintro e w8 ⟨rfl, hgr8, v9, z9, hbr8⟩; have hty8 := TypedR.grownM hgr8 hbr6.2.1; have hq8 : w8.heap[wr.heap.size]? = some (.cells #[.int .i64 xk, .int .u64 xt, .int .u64 x0, .string x1, .bool x2, .int .i64 x3, .string x4, .string x5] 37 (0, 0)) := hty8 _ _ _ hq6 (by decide) (by decide) (by decide); have hbk8 := hbk6.typedR hty8; have hbe8 := hbe6.grown hgr8 hbe6.size (fun j hj => by injection hj with hj; omega); dsimp only))
          all_goals
            go_wp2_with fail
            go_meet
            exact ⟨_, last, ⟨hbk8, _, _, hbr8⟩, by have := List.length_filter_le (fun x => !P x) l; omega, by omega, hbe8, hq8⟩
        have e0 : (kk == 0) = false := by rw [beq_eq_false_iff_ne]; exact k0
        have e1 : (kk == 1) = false := by rw [beq_eq_false_iff_ne]; exact k1
        by_cases k23 : kk = 2 ∨ kk = 3
        · obtain ⟨b2, b3, e2, e3, hb23⟩ : ∃ b2 b3, (kk == 2) = b2 ∧ (kk == 3) = b3 ∧ (b2 = true ∨ (b2 = false ∧ b3 = true)) := ⟨_, _, rfl, rfl, by rcases k23 with h | h <;> subst h <;> decide⟩
          have CT := Lib.hid (book_Take b b last l x0 W0 hbk hlo)
          have HBR := Lib.hid hbr
          have m0 : W0.cell? ⟨wr.heap.size, 2, none⟩ = some (.int .u64 x0) := (cell_of_row _ _ 2 _ _ _ HQO.out).trans rfl
          clear k0 k1 k23 hbk hbr
          rcases hb23 with rfl | ⟨rfl, rfl⟩
          all_goals
            go_wp2_with fail
            refine CT.out.mono ?_
            rintro e w4 ⟨hlow4, hty4, hpost⟩
            have hqo4 := hty4 _ _ _ HQO.out (by decide) (by decide)
            have hbr4 := HBR.out.typed hty4
            have hml4 := lt_of_block hbr4.2.1
            have hbel4 := low_trans HBO.out (hlow4.mono hb0)
            clear m0 hlow4 hty4
            rcases hpost with ⟨i1, ⟨⟨y0, y1, y2, y3, y4, y5⟩, y6⟩, hy, hyid, hyf, rfl, hbk4⟩ | ⟨hno, v, rfl, hf, hbk4⟩
            · have hyid' : x0 = y0 := hyid.symm
              subst hyid'
              clear hyid
              have hyl := (List.getElem?_eq_some_iff.1 hy).1
              have hel := erase_len hyl
              have hal5 : Below w4.heap.size w4 (w4.alloc (.cells #[.int .u64 x0, .string y1, .bool y2, .int .i64 y3, .string y4, .string y5] 35)) := (Below.refl _ _).alloc (Nat.le_refl _) _
              have hqr := heap_alloc_new w4 (.cells #[.int .u64 x0, .string y1, .bool y2, .int .i64 y3, .string y4, .string y5] 35)
              have hsz5 : (w4.alloc (.cells #[.int .u64 x0, .string y1, .bool y2, .int .i64 y3, .string y4, .string y5] 35)).heap.size = w4.heap.size + 1 := by simp
              dsimp only [rqV]
              go_upto_region 26 with (fail)
              have hcm := fun W => rq_neq ⟨x0, y1, y2, y3, y4, y5⟩ ⟨x0, y1, y2, y3, y4, y5⟩ W
              simp only [decide_true, Bool.not_true, rqV] at hcm
              generalize w4.alloc (.cells #[.int .u64 x0, .string y1, .bool y2, .int .i64 y3, .string y4, .string y5] 35) = w5 at *
              have hqo5 := (hal5.block _ (lt_of_block hqo4)).trans hqo4
              have hbr5 := hbr4.typed (Typed.of_below hal5)
              have CT2 := Lib.hid (ref26_Take m b last v2 z2 l x0 w5 hbr5 hlo)
              have p2 : w5.cell? ⟨wr.heap.size, 2, none⟩ = some (.int .u64 x0) := (cell_of_row _ _ 2 _ _ _ hqo5).trans rfl
              have HX := Lib.hid (show BookAt w5 b b (l.take i1 ++ l.drop (i1 + 1)) last ∧ BookR w5 b m v2 z2 l last ∧ Below w.heap.size w w5 ∧ w5.heap[w4.heap.size]? = _ ∧ l[i1]? = _ ∧ (∀ y ∈ l.take i1, y.r.id ≠ x0) ∧ w5.heap[wr.heap.size]? = some (.cells #[.int .i64 xk, .int .u64 xt, .int .u64 x0, .string x1, .bool x2, .int .i64 x3, .string x4, .string x5] 37 (0, 0)) from ⟨hbk4.below hal5, hbr5, Bt hbel4 hal5, hqr, hy, hyf, hqo5⟩)
              clear hy hyf hbk4 hal5 hqr hqo5 hbr5 hbr4 hbel4 hqo4
              go_wp2_with fail
              refine CT2.out.mono ?_
              rintro e w6 ⟨hgr6, hpost⟩
              obtain ⟨hbk5, hbr5, hbe5, hqr5, hy, hyf, hqo5⟩ := HX.out
              rcases hpost with ⟨i2, xx, hz, hzid, hzf, rfl, v7, z7, hbr6⟩ | ⟨hno, _⟩
              · obtain rfl := first_eq hy hz rfl hzid hyf hzf
                obtain rfl := Option.some.inj (hz.symm.trans hy)
                have hty6 := TypedR.grownM hgr6 hbr5.2.1
                have hqr6 := (hgr6.block w4.heap.size (lt_of_block hqr5) (fun e => by injection e with e; omega)).trans hqr5
                have hqo6 := hty6 _ _ _ hqo5 (by decide) (by decide) (by decide)
                have hal7 : Below w6.heap.size w6 (w6.alloc (.cells #[.int .u64 x0, .string y1, .bool y2, .int .i64 y3, .string y4, .string y5] 35)) := (Below.refl _ _).alloc (Nat.le_refl _) _
                have hqs := heap_alloc_new w6 (.cells #[.int .u64 x0, .string y1, .bool y2, .int .i64 y3, .string y4, .string y5] 35)
                have hba6 : BothAt w6 b m (l.take i1 ++ l.drop (i1 + 1)) last := ⟨hbk5.typedR hty6, v7, z7, hbr6⟩
                have hbe6 := hbe5.grown hgr6 hbe5.size (fun j hj => by injection hj with hj; omega)
                dsimp only [rqV]
                have HY := Lib.hid (⟨hy, hyf, hzid, hzf⟩ : _ ∧ _ ∧ _ ∧ _)
                clear p2 hz hy hyf hzid hzf HY
                go_upto_region 27 with (fail)
                generalize w6.alloc (.cells #[.int .u64 x0, .string y1, .bool y2, .int .i64 y3, .string y4, .string y5] 35) = w7 at *
                have hqr7 := (hal7.block _ (lt_of_block hqr6)).trans hqr6
                have HF := Lib.hid (show BothAt w7 b m (l.take i1 ++ l.drop (i1 + 1)) last ∧ Below w.heap.size w w7 ∧ w7.heap[wr.heap.size]? = some (.cells #[.int .i64 xk, .int .u64 xt, .int .u64 x0, .string x1, .bool x2, .int .i64 x3, .string x4, .string x5] 37 (0, 0)) from ⟨hba6.below hal7, Bt hbe6 hal7, (hal7.block _ (lt_of_block hqo6)).trans hqo6⟩)
                obtain ⟨s0, s1, s2, s3, s4, s5⟩ := rq_block (r := ⟨x0, y1, y2, y3, y4, y5⟩) hqr7
                obtain ⟨r0, r1, r2, r3, r4, r5⟩ := rq_block (r := ⟨x0, y1, y2, y3, y4, y5⟩) hqs
                simp only at s0 s1 s2 s3 s4 s5 r0 r1 r2 r3 r4 r5
                clear hbk5 hbr5 hbe5 hqr5 hqo5 hgr6 hbr6 hty6 hqr6 hqo6 hal7 hqs hba6 hbe6 hqr7 CT2 HX
                go_wp2_with fail
                go_meet
                exact ⟨_, last, HF.out.1, by omega, by omega, HF.out.2.1, HF.out.2.2⟩
              · exact absurd rfl (hno _ (List.mem_of_getElem? hy))
            · have hff := hf
              obtain ⟨zz, rfl⟩ := hff.ne_nil
              have hal5 : Below w4.heap.size w4 (w4.alloc (.cells #[.int .u64 0, .string ⟨#[]⟩, .bool false, .int .i64 0, .string ⟨#[]⟩, .string ⟨#[]⟩] 35)) := (Below.refl _ _).alloc (Nat.le_refl _) _
              have hqr := heap_alloc_new w4 (.cells #[.int .u64 0, .string ⟨#[]⟩, .bool false, .int .i64 0, .string ⟨#[]⟩, .string ⟨#[]⟩] 35)
              dsimp only [rqV, rq0]
              go_upto_region 26 with (fail)
              have hcm := fun W => rq_neq rq0 rq0 W
              simp only [decide_true, Bool.not_true, rqV, rq0] at hcm
              generalize w4.alloc (.cells #[.int .u64 0, .string ⟨#[]⟩, .bool false, .int .i64 0, .string ⟨#[]⟩, .string ⟨#[]⟩] 35) = w5 at *
              have hqo5 := (hal5.block _ (lt_of_block hqo4)).trans hqo4
              have hbr5 := hbr4.typed (Typed.of_below hal5)
              have CT2 := Lib.hid (ref26_Take m b last v2 z2 l x0 w5 hbr5 hlo)
              have p2 : w5.cell? ⟨wr.heap.size, 2, none⟩ = some (.int .u64 x0) := (cell_of_row _ _ 2 _ _ _ hqo5).trans rfl
              have HX := Lib.hid (show BookAt w5 b b l last ∧ BookR w5 b m v2 z2 l last ∧ Below w.heap.size w w5 ∧ w5.heap[w4.heap.size]? = _ ∧ (∀ y ∈ l, y.r.id ≠ x0) ∧ IsFault w5 (.iface 89 zz) 30 0 ∧ w5.heap[wr.heap.size]? = some (.cells #[.int .i64 xk, .int .u64 xt, .int .u64 x0, .string x1, .bool x2, .int .i64 x3, .string x4, .string x5] 37 (0, 0)) from ⟨hbk4.below hal5, hbr5, Bt hbel4 hal5, hqr, hno, FaultIs.below hf hal5, hqo5⟩)
              clear hno hf hff hbk4 hal5 hqr hqo5 hbr5 hbr4 hbel4 hqo4
              go_wp2_with fail
              refine CT2.out.mono ?_
              rintro e w6 ⟨hgr6, hpost⟩
              obtain ⟨hbk5, hbr5, hbe5, hqr5, hno, hf5, hqo5⟩ := HX.out
              rcases hpost with ⟨i2, xx, hz, hzid, _⟩ | ⟨_, rfl, v7, z7, hbr6⟩
              · exact absurd hzid (hno _ (List.mem_of_getElem? hz))
              · have hty6 := TypedR.grownM hgr6 hbr5.2.1
                have hqr6 := (hgr6.block w4.heap.size (lt_of_block hqr5) (fun e => by injection e with e; omega)).trans hqr5
                have hqo6 := hty6 _ _ _ hqo5 (by decide) (by decide) (by decide)
                have hf6 : IsFault w6 (.iface 89 zz) 30 0 := by
                  obtain ⟨fb, fe, hfb⟩ := hf5
                  exact ⟨fb, fe, hty6 _ _ _ hfb (by decide) (by decide) (by decide)⟩
                have hal7 : Below w6.heap.size w6 (w6.alloc (.cells #[.int .u64 0, .string ⟨#[]⟩, .bool false, .int .i64 0, .string ⟨#[]⟩, .string ⟨#[]⟩] 35)) := (Below.refl _ _).alloc (Nat.le_refl _) _
                have hqs := heap_alloc_new w6 (.cells #[.int .u64 0, .string ⟨#[]⟩, .bool false, .int .i64 0, .string ⟨#[]⟩, .string ⟨#[]⟩] 35)
                have hba6 : BothAt w6 b m l last := ⟨hbk5.typedR hty6, v7, z7, hbr6⟩
                have hbe6 := hbe5.grown hgr6 hbe5.size (fun j hj => by injection hj with hj; omega)
                dsimp only [rqV, rq0]
                clear p2
                go_upto_region 27 with (fail)
                generalize w6.alloc (.cells #[.int .u64 0, .string ⟨#[]⟩, .bool false, .int .i64 0, .string ⟨#[]⟩, .string ⟨#[]⟩] 35) = w7 at *
                have hqr7 := (hal7.block _ (lt_of_block hqr6)).trans hqr6
                have hbe7 := Bt hbe6 hal7
                have hf7 : IsFault w7 (.iface 89 zz) 30 0 := FaultIs.below hf6 hal7
                have HF := Lib.hid (show BothAt w7 b m l last ∧ Below w.heap.size w w7 ∧ w7.heap[wr.heap.size]? = some (.cells #[.int .i64 xk, .int .u64 xt, .int .u64 x0, .string x1, .bool x2, .int .i64 x3, .string x4, .string x5] 37 (0, 0)) from ⟨hba6.below hal7, hbe7, (hal7.block _ (lt_of_block hqo6)).trans hqo6⟩)
                have CK := Lib.hid (fault_Kind_is (.iface 89 zz) 30 0 _ w7 (HHA.out.below hbe7) hf7)
                have CA := Lib.hid (fun (W : World) (h : Below w7.heap.size w7 W) => fault_At_is (.iface 89 zz) 30 0 _ W (HHA.out.below (Bt hbe7 h)) (FaultIs.below hf7 h))
                obtain ⟨s0, s1, s2, s3, s4, s5⟩ := rq_block (r := rq0) hqr7
                obtain ⟨r0, r1, r2, r3, r4, r5⟩ := rq_block (r := rq0) hqs
                simp only [rq0] at s0 s1 s2 s3 s4 s5 r0 r1 r2 r3 r4 r5
                clear hno hf5 hf6 hf7 hbk5 hbr5 hbe5 hqr5 hqo5 hgr6 hbr6 hty6 hqr6 hqo6 hal7 hqs hba6 hbe6 hbe7 hqr7 CT2 HX
                go_wp2_with fail
                refine CK.out.mono ?_
                rintro e w8 ⟨rfl, hk8⟩
                have CA8 := Lib.hid (CA.out w8 hk8)
                have HK8 := Lib.hid hk8
                clear hk8
                go_wp2_with fail
                refine CA8.out.mono ?_
                rintro e w9 ⟨rfl, hk9⟩
                have HK9 := Lib.hid (Bt HK8.out hk9)
                clear hk9
                go_wp2_with fail
                go_meet
                exact ⟨_, last, HF.out.1.below HK9.out, by omega, by omega, Bt HF.out.2.1 HK9.out, (HK9.out.block _ (lt_of_block HF.out.2.2)).trans HF.out.2.2⟩
        · have e2 : (kk == 2) = false := by rw [beq_eq_false_iff_ne]; exact fun h => k23 (.inl h)
          have e3 : (kk == 3) = false := by rw [beq_eq_false_iff_ne]; exact fun h => k23 (.inr h)
          obtain ⟨l2, hl2⟩ : ∃ l2, l2 = l ++ [(⟨⟨(last : Int) + 1, x1, x2, x3, x4, x5⟩, nw⟩ : Wt)] := ⟨_, rfl⟩
          have hl2n : l2.length = l.length + 1 := by rw [hl2]; simp
          have CL := Lib.hid (show ∀ W : World, BookAt W b b l last → Calls Tryz.prog 16 #[.pointer (some ⟨b, 0, none⟩), rqV ⟨x0, x1, x2, x3, x4, x5⟩, .int .u64 nw] W (fun e w' => e = .returned (.agg #[.int .u64 ((last : Int) + 1), .string x1, .bool x2, .int .i64 x3, .string x4, .string x5]) ∧ BookAt w' b b l2 (last + 1) ∧ Below b W w' ∧ Typed W w') from fun W h => by
            rw [hl2]
            exact book_AskT b b last l ⟨x0, x1, x2, x3, x4, x5⟩ nw W h hlo (by omega))
          have CM := Lib.hid (show ∀ (W : World) v z, BookR W b m v z l last → Calls Tryz.prog 17 #[.pointer (some ⟨m, 0, none⟩), rqV ⟨x0, x1, x2, x3, x4, x5⟩, .int .u64 nw] W (fun e w' => e = .returned (.agg #[.int .u64 ((last : Int) + 1), .string x1, .bool x2, .int .i64 x3, .string x4, .string x5]) ∧ Below b W w' ∧ TypedR W w' ∧ ∃ v' u', BookR w' b m v' u' l2 (last + 1)) from fun W v z h => by
            rw [hl2]
            exact ref26_Ask m b last v z l ⟨x0, x1, x2, x3, x4, x5⟩ nw W h hlo (by omega))
          have hcm : ∀ W : World, (binOp .neq 35 (.agg #[.int .u64 ((last : Int) + 1), .string x1, .bool x2, .int .i64 x3, .string x4, .string x5]) (.agg #[.int .u64 ((last : Int) + 1), .string x1, .bool x2, .int .i64 x3, .string x4, .string x5])).run Tryz.prog W = .ok (.bool false) W := fun W => (rq_neq ⟨(last : Int) + 1, x1, x2, x3, x4, x5⟩ ⟨(last : Int) + 1, x1, x2, x3, x4, x5⟩ W).trans (by simp)
          clear hl2
          have hdr : Below W0.heap.size W0 W0.drew := (Below.refl _ _).drew
          have HBKD := Lib.hid (hbk.below hdr)
          have HBRD := Lib.hid (hbr.typed (Typed.of_below hdr))
          have HBD := Lib.hid (Bt HBO.out hdr)
          have d2 : W0.cell? ⟨wr.heap.size, 2, none⟩ = some (.int .u64 x0) := (cell_of_row _ _ 2 _ _ _ HQO.out).trans rfl
          have d3 : W0.cell? ⟨wr.heap.size, 3, none⟩ = some (.string x1) := (cell_of_row _ _ 3 _ _ _ HQO.out).trans rfl
          have d4 : W0.cell? ⟨wr.heap.size, 4, none⟩ = some (.bool x2) := (cell_of_row _ _ 4 _ _ _ HQO.out).trans rfl
          have d5 : W0.cell? ⟨wr.heap.size, 5, none⟩ = some (.int .i64 x3) := (cell_of_row _ _ 5 _ _ _ HQO.out).trans rfl
          have d6 : W0.cell? ⟨wr.heap.size, 6, none⟩ = some (.string x4) := (cell_of_row _ _ 6 _ _ _ HQO.out).trans rfl
          have d7 : W0.cell? ⟨wr.heap.size, 7, none⟩ = some (.string x5) := (cell_of_row _ _ 7 _ _ _ HQO.out).trans rfl
          clear k0 k1 k23 hbk hbr hdr
          go_upto_region 15 with (fail)
          go_region_held (fun W => W.cell? ⟨wr.heap.size, 2, none⟩ = some (.int .u64 x0) ∧ W.cell? ⟨wr.heap.size, 3, none⟩ = some (.string x1) ∧ W.cell? ⟨wr.heap.size, 4, none⟩ = some (.bool x2) ∧ W.cell? ⟨wr.heap.size, 5, none⟩ = some (.int .i64 x3) ∧ W.cell? ⟨wr.heap.size, 6, none⟩ = some (.string x4) ∧ W.cell? ⟨wr.heap.size, 7, none⟩ = some (.string x5)) (first | assumption | exact ⟨d2, d3, d4, d5, d6, d7⟩ | exact ⟨(cell_of_row _ _ 2 _ _ _ (by assumption)).trans rfl, (cell_of_row _ _ 3 _ _ _ (by assumption)).trans rfl, (cell_of_row _ _ 4 _ _ _ (by assumption)).trans rfl, (cell_of_row _ _ 5 _ _ _ (by assumption)).trans rfl, (cell_of_row _ _ 6 _ _ _ (by assumption)).trans rfl, (cell_of_row _ _ 7 _ _ _ (by assumption)).trans rfl⟩)
            (first
            | (go_at_call 16; refine (CL.out _ HBKD.out).mono ?_; rintro e w6 ⟨rfl, hbk6, hlow6, hty6⟩; have hq6 : w6.heap[wr.heap.size]? = some (.cells #[.int .i64 xk, .int .u64 xt, .int .u64 x0, .string x1, .bool x2, .int .i64 x3, .string x4, .string x5] 37 (0, 0)) := hty6 _ _ _ HQO.out (by decide) (by decide); have hbr6 := HBRD.out.typed hty6; have hbe6 := low_trans HBD.out (hlow6.mono hb0); dsimp only)
            | (go_at_call 17; refine (CM.out _ _ _ HBRD.out).mono ?_; rintro e w6 ⟨rfl, hlow6, hty6, v7, z7, hbr6⟩; have hq6 : w6.heap[wr.heap.size]? = some (.cells #[.int .i64 xk, .int .u64 xt, .int .u64 x0, .string x1, .bool x2, .int .i64 x3, .string x4, .string x5] 37 (0, 0)) := hty6 _ _ _ HQO.out (by decide) (by decide) (by decide); have hbk6 := HBKD.out.typedR hty6; have hbe6 := low_trans HBD.out (hlow6.mono hb0); dsimp only)
            | (go_at_call 16; refine (CL.out _ hbk6).mono ?_; rintro e w8 ⟨rfl, hbk8, hlow8, hty8⟩; have hq8 : w8.heap[wr.heap.size]? = some (.cells #[.int .i64 xk, .int .u64 xt, .int .u64 x0, .string x1, .bool x2, .int .i64 x3, .string x4, .string x5] 37 (0, 0)) := hty8 _ _ _ hq6 (by decide) (by decide); have hbr8 := hbr6.typed hty8; have hbe8 := low_trans hbe6 (hlow8.mono hb0); dsimp only)
            | (go_at_call 17; refine (CM.out _ _ _ hbr6).mono ?_; rintro e w8 ⟨rfl, hlow8, hty8, v9, z9, hbr8⟩; have hq8 : w8.heap[wr.heap.size]? = some (.cells #[.int .i64 xk, .int .u64 xt, .int .u64 x0, .string x1, .bool x2, .int .i64 x3, .string x4, .string x5] 37 (0, 0)) := hty8 _ _ _ hq6 (by decide) (by decide) (by decide); have hbk8 := hbk6.typedR hty8; have hbe8 := low_trans hbe6 (hlow8.mono hb0); dsimp only))
          all_goals
            go_wp2_with fail
            go_meet
            exact ⟨l2, last + 1, ⟨hbk8, _, _, hbr8⟩, by omega, by omega, hbe8, hq8⟩
      case rest =>
        obtain ⟨l2, last2, hba2, hll2, hli2, hbw2, hq2⟩ := hcut
        have HBA2 := Lib.hid hba2
        obtain ⟨hb2, v2, z2, hr2⟩ := hba2
        obtain ⟨⟨va, vc, rfl⟩, ua, uc, rfl⟩ := hr2.shape
        have d0 : wc.cell? ⟨m, 0, none⟩ = some (.slice va l2.length vc) := (cell_of_row _ _ 0 _ _ _ hr2.2.1).trans rfl
        have d5 : wc.cell? ⟨wr.heap.size, 5, none⟩ = some (.int .i64 x3) := (cell_of_row _ _ 5 _ _ _ hq2).trans rfl
        have d6 : wc.cell? ⟨wr.heap.size, 6, none⟩ = some (.string x4) := (cell_of_row _ _ 6 _ _ _ hq2).trans rfl
        have hml := lt_of_block hr2.2.1
        have hql := lt_of_block hq2
        have hb00 : Below wc.heap.size wc wc := Below.refl _ _
        have HK := Lib.hid (fun (W : World) (h : Below wc.heap.size wc W) => (⟨(h.cell (p := ⟨m, 0, none⟩) hml).trans d0, (h.cell (p := ⟨wr.heap.size, 5, none⟩) hql).trans d5, (h.cell (p := ⟨wr.heap.size, 6, none⟩) hql).trans d6⟩ : W.cell? ⟨m, 0, none⟩ = some (.slice va l2.length vc) ∧ W.cell? ⟨wr.heap.size, 5, none⟩ = some (.int .i64 x3) ∧ W.cell? ⟨wr.heap.size, 6, none⟩ = some (.string x4)))
        have CL := Lib.hid (fun (W : World) (h : Below wc.heap.size wc W) => book_Len b b last2 l2 W (hb2.below h))
        have CU := Lib.hid (fun W => wire_AppleURL x3 x4 W hx4)
        have CV := Lib.hid (fun W => ref26_AppleURL x3 x4 W hx4)
        generalize urlT x3 x4 = uu at CU CV
        have HBW := Lib.hid hbw2
        clear hb2 hr2 hq2 hbw2 e5 e6 e7
        go_upto_region 29 with (fail)
        go_region_held (fun W => W.cell? ⟨m, 0, none⟩ = some (.slice va l2.length vc) ∧ W.cell? ⟨wr.heap.size, 5, none⟩ = some (.int .i64 x3) ∧ W.cell? ⟨wr.heap.size, 6, none⟩ = some (.string x4) ∧ Below wc.heap.size wc W) (first | assumption | exact hb00.drew | exact ⟨d0, d5, d6, hb00.drew⟩ | exact ⟨(HK.out _ (by assumption)).1, (HK.out _ (by assumption)).2.1, (HK.out _ (by assumption)).2.2, by assumption⟩ | exact (HK.out _ (by assumption)).1 | exact (HK.out _ (by assumption)).2.1 | exact (HK.out _ (by assumption)).2.2)
          (first
          | (go_at_call 18; refine (CL.out _ (by first | assumption | exact hb00.drew)).mono ?_; rintro e w6 ⟨rfl, rfl⟩; dsimp only)
          | (go_at_call 19; refine (CU.out _).mono ?_; rintro e w6 ⟨rfl, hk6⟩; have hk7 := Bt (show Below wc.heap.size wc _ by first | assumption | exact hb00.drew) hk6; dsimp only)
          | (go_at_call 20; refine (CV.out _).mono ?_; rintro e w6 ⟨rfl, hk6⟩; have hk8 := Bt (show Below wc.heap.size wc _ by first | assumption | exact hb00.drew) hk6; dsimp only))
        all_goals
          go_wp2_with fail
          go_roundw
          case rel => exact ⟨i + 1, last2, l2, _, by omega, rfl, by go_num, HBA2.out.below (by first | assumption | exact hb00.drew), hll2, by omega, Bt HBW.out (by first | assumption | exact hb00.drew)⟩
          case measure => simp [intOf]; omega
    · obtain rfl : i = S.length := by omega
      go_wp2_with fail
      go_ret
      exact ⟨rfl, hbr⟩
end Go.Proofs.YtibhohpamnpkcaaGreatDoor
