/- The walk of WireOnce. -/
import Derived.Test.YtkgifenidmbdkaaDoorWireOnceM5
import Derived.Test.YtkgifenidmbdkaaDoorWireOnceM14

namespace Go.Proofs.YtkgifenidmbdkaaDoor
open Go.RowKit

set_option maxHeartbeats 12800000 in
set_option maxRecDepth 100000 in
theorem walkWireOnce (a : Option Addr) (S : List OpW) (cap : Nat) (w : World) (hH : Handle w) (_ : Utf8Laid w) (hl : S.length ≤ maxLen) (hs : OpsSl w a S) (_ : sizedO S) :
    Calls Tryd.prog 3 #[.slice a S.length cap] w fun e w' => e = .returned (.bool true) ∧ Below w.heap.size w w' := by
  unfold maxLen at hl
  go_enter Tryd.func3, Tryd.ntmps3
  go_wp2_with fail
  refine (speaks26 _ hH).mono ?_
  rintro e w1 ⟨rfl, hb1⟩
  by_cases h1 : 200 < S.length
  · have e1 : (200 : Int) < (S.length : Int) := by omega
    clear h1
    go_wp2_with fail
    go_ret
    exact ⟨rfl, hb1⟩
  have e1 : ¬ (200 : Int) < (S.length : Int) := by omega
  go_wp2_with fail
  refine (wire_New _).mono ?_
  rintro e w2 ⟨rfl, hbk2, hb2⟩
  have hb02 := Bt hb1 hb2
  have hbs := hb1.size
  generalize hbb : w1.heap.size = b at *
  have HS := Lib.hid hs
  have HB02 := Lib.hid hb02
  clear hs hH hb1 hb2 hb02 e1
  go_wp2_with fail
  go_loopw [4, 5, 6, 23] (fun t ak g x wr => ∃ (i asked gone : Nat) (l : List Wt) (now : Int), i ≤ S.length ∧ t = .int .u64 now ∧ ak = .int .u64 (asked : Int) ∧ g = .int .i64 (gone : Int) ∧ x = .int .i64 i ∧ BookAt wr b b l asked ∧ IdsOk l asked ∧ l.length + gone = asked ∧ asked ≤ i ∧ Below w.heap.size w wr) (fun _ _ _ x _ => S.length - (intOf x).toNat)
  case atStart => exact ⟨0, 0, 0, [], 0, Nat.zero_le _, rfl, rfl, rfl, rfl, hbk2, IdsOk.nil, rfl, Nat.le_refl _, HB02.out⟩
  case round =>
    obtain ⟨i, asked, gone, l, now, hil, rfl, rfl, rfl, rfl, hbk, hids, hsum, hai, hbr⟩ := hrel
    have HIDS0 := Lib.hid hids
    have HSUM0 := Lib.hid hsum
    clear hbk2 hids hsum
    by_cases hlt : i < S.length
    · have hiI : (i : Int) < (S.length : Int) := by omega
      obtain ⟨x, hx⟩ : ∃ x, S[i]? = some x := ⟨_, List.getElem?_eq_getElem hlt⟩
      obtain ⟨sb, off, ha, hsb, c0, c1, c2, c3, c4, c5, c6, c7⟩ := (HS.out.below hbr) i x hx
      obtain ⟨xk, xt, ⟨x0, x1, x2, x3, x4, x5⟩⟩ := x
      simp only at c0 c1 c2 c3 c4 c5 c6 c7
      have HA := Lib.hid ha
      have hal : Below wr.heap.size wr (wr.alloc (.cells #[.int .i64 xk, .int .u64 xt, .int .u64 x0, .string x1, .bool x2, .int .i64 x3, .string x4, .string x5] 32)) := (Below.refl _ _).alloc (Nat.le_refl _) _
      have hqo := heap_alloc_new wr (.cells #[.int .i64 xk, .int .u64 xt, .int .u64 x0, .string x1, .bool x2, .int .i64 x3, .string x4, .string x5] 32)
      have hbo := Bt hbr hal
      have hbko := hbk.below hal
      have hlo : l.length ≤ 1000 := by have := HSUM0.out; omega
      have hb0 : w.heap.size ≤ b := by omega
      clear hx hbk hbr
      subst ha
      have HQO := Lib.hid hqo
      have HBO := Lib.hid hbo
      have HBKO := Lib.hid hbko
      clear hqo hbo hbko
      go_upto_region 17 with (fail)
      generalize bits BinOp.and IntKind.i64 xk 7 = kk at *
      by_cases k0 : kk = 0
      · have e0 : (kk == 0) = true := by rw [k0]; rfl
        have CL := book_Late b b asked l (IntKind.u64.wrap (now + bits BinOp.and IntKind.u64 xt 255)) _ HBKO.out hlo
        generalize lateB (IntKind.u64.wrap (now + bits BinOp.and IntKind.u64 xt 255)) = P at CL
        have hfb := filter_both P l
        have hsub : (l.filter fun x => !P x).Sublist l := List.filter_sublist
        clear k0
        go_wp2_with fail
        refine CL.mono ?_
        rintro e w4 ⟨v, rfl, hown, hbk4, hlow4⟩
        obtain ⟨va, vc, rfl⟩ := hown.shape
        rw [List.length_map] at hown
        rw [List.length_map]
        have HBK := Lib.hid hbk4
        have HIDS := Lib.hid (HIDS0.out.sub hsub)
        have HBEL := Lib.hid (low_trans HBO.out (hlow4.mono hb0))
        generalize (l.filter fun x => !P x) = l2 at *
        generalize (l.filter P).length = n1 at *
        obtain ⟨g2, hg2⟩ : ∃ g2, g2 = gone + n1 := ⟨_, rfl⟩
        have HSUM := Lib.hid (show l2.length + g2 = asked by have := HSUM0.out; omega)
        have z7 : IntKind.i64.wrap ((gone : Int) + (n1 : Int)) = (g2 : Int) := (IntWalk.i64_in _ (by have := HSUM0.out; omega)).trans (by omega)
        have z8 : IntKind.i64.wrap ((l2.length : Int) + (g2 : Int)) = ((asked : Nat) : Int) := (IntWalk.i64_in _ (by have := HSUM.out; omega)).trans (by have := HSUM.out; omega)
        have z9 : IntKind.u64.wrap ((asked : Nat) : Int) = ((asked : Nat) : Int) := IntWalk.u64_in _ (by omega)
        clear hg2 hfb hsub hown hbk4 hlow4 CL
        go_wp2_with fail
        refine (book_Len b b (asked) l2 _ HBK.out).mono ?_
        rintro e w9 ⟨rfl, rfl⟩
        go_wp2_with fail
        go_roundw
        case rel => exact ⟨i + 1, asked, g2, l2, _, by omega, rfl, by go_num, by go_num, by go_num, HBK.out, HIDS.out, HSUM.out, by omega, HBEL.out⟩
        case measure => simp [intOf]; omega
      by_cases k1 : kk = 1
      · have e0 : (kk == 0) = false := by rw [k1]; rfl
        have e1 : (kk == 1) = true := by rw [k1]; rfl
        have CL := book_Drop b b asked l x1 x4 x3 _ HBKO.out hlo
        generalize dropB x1 x3 x4 = P at CL
        have hfb := filter_both P l
        have hsub : (l.filter fun x => !P x).Sublist l := List.filter_sublist
        clear k0 k1
        go_wp2_with fail
        refine CL.mono ?_
        rintro e w4 ⟨rfl, hbk4, hlow4⟩
        have HBK := Lib.hid hbk4
        have HIDS := Lib.hid (HIDS0.out.sub hsub)
        have HBEL := Lib.hid (low_trans HBO.out (hlow4.mono hb0))
        generalize (l.filter fun x => !P x) = l2 at *
        generalize (l.filter P).length = n1 at *
        obtain ⟨g2, hg2⟩ : ∃ g2, g2 = gone + n1 := ⟨_, rfl⟩
        have HSUM := Lib.hid (show l2.length + g2 = asked by have := HSUM0.out; omega)
        have z7 : IntKind.i64.wrap ((gone : Int) + (n1 : Int)) = (g2 : Int) := (IntWalk.i64_in _ (by have := HSUM0.out; omega)).trans (by omega)
        have z8 : IntKind.i64.wrap ((l2.length : Int) + (g2 : Int)) = ((asked : Nat) : Int) := (IntWalk.i64_in _ (by have := HSUM.out; omega)).trans (by have := HSUM.out; omega)
        have z9 : IntKind.u64.wrap ((asked : Nat) : Int) = ((asked : Nat) : Int) := IntWalk.u64_in _ (by omega)
        clear hg2 hfb hsub hbk4 hlow4 CL
        go_wp2_with fail
        refine (book_Len b b (asked) l2 _ HBK.out).mono ?_
        rintro e w9 ⟨rfl, rfl⟩
        go_wp2_with fail
        go_roundw
        case rel => exact ⟨i + 1, asked, g2, l2, _, by omega, rfl, by go_num, by go_num, by go_num, HBK.out, HIDS.out, HSUM.out, by omega, HBEL.out⟩
        case measure => simp [intOf]; omega
      have e0 : (kk == 0) = false := by rw [beq_eq_false_iff_ne]; exact k0
      have e1 : (kk == 1) = false := by rw [beq_eq_false_iff_ne]; exact k1
      by_cases k23 : kk = 2 ∨ kk = 3
      · obtain ⟨b2, b3, e2, e3, hb23⟩ : ∃ b2 b3, (kk == 2) = b2 ∧ (kk == 3) = b3 ∧ (b2 = true ∨ (b2 = false ∧ b3 = true)) := ⟨_, _, rfl, rfl, by rcases k23 with h | h <;> subst h <;> decide⟩
        clear k0 k1 k23
        have hTK : ∀ y : Rq, Calls Tryd.prog 8 #[.pointer (some ⟨b, 0, none⟩), .int .u64 x0] (wr.alloc (.cells #[.int .i64 xk, .int .u64 xt, .int .u64 x0, .string x1, .bool x2, .int .i64 x3, .string x4, .string x5] 32)) (TakePost b b asked x0 l (wr.alloc (.cells #[.int .i64 xk, .int .u64 xt, .int .u64 x0, .string x1, .bool x2, .int .i64 x3, .string x4, .string x5] 32))) := fun _ => book_Take b b asked l x0 _ HBKO.out hlo
        have CT := Lib.hid (hTK rq0)
        clear hTK
        rcases hb23 with rfl | ⟨rfl, rfl⟩
        all_goals
          go_wp2_with fail
          refine CT.out.mono ?_
          rintro e w4 ⟨hlow4, hty4, hpost⟩
          have hqo4 := hty4 _ _ _ HQO.out (by decide) (by decide)
          have m2 : w4.cell? ⟨wr.heap.size, 2, none⟩ = some (.int .u64 x0) := (cell_of_row _ _ 2 _ _ _ hqo4).trans rfl
          have hlq := lt_of_block hqo4
          have hbel4 := low_trans HBO.out (hlow4.mono hb0)
          rcases hpost with ⟨i1, ⟨⟨y0, y1, y2, y3, y4, y5⟩, y6⟩, hy, hyid, hyf, rfl, hbk4⟩ | ⟨hno, v, rfl, hf, hbk4⟩
          · have hyl := (List.getElem?_eq_some_iff.1 hy).1
            have hon := HIDS0.out.once hy
            have hel := erase_len hyl
            have hids4 := HIDS0.out.sub (erase_sub l i1)
            simp only at hyid hon
            subst hyid
            have hal5 : Below w4.heap.size w4 (w4.alloc (.cells #[.int .u64 y0, .string y1, .bool y2, .int .i64 y3, .string y4, .string y5] 30)) := (Below.refl _ _).alloc (Nat.le_refl _) _
            have hqr := heap_alloc_new w4 (.cells #[.int .u64 y0, .string y1, .bool y2, .int .i64 y3, .string y4, .string y5] 30)
            have hqo5 := (hal5.block _ hlq).trans hqo4
            have hbk5 := hbk4.below hal5
            have hbel5 := low_trans hbel4 (hal5.mono (show w.heap.size ≤ w4.heap.size by have := hbel4.size; omega))
            dsimp only [rqV]
            generalize l.take i1 ++ l.drop (i1 + 1) = l2 at *
            have CT2 := Lib.hid (book_Take b b asked l2 y0 _ hbk5 (by omega))
            have HQR := Lib.hid hqr
            have HQO5 := Lib.hid hqo5
            have HBEL5 := Lib.hid hbel5
            have HON := Lib.hid hon
            have HIDS := Lib.hid hids4
            obtain ⟨g2, hg2⟩ : ∃ g2, g2 = gone + 1 := ⟨_, rfl⟩
            have HSUM := Lib.hid (show l2.length + g2 = asked by have := HSUM0.out; omega)
            have z7 : IntKind.i64.wrap ((gone : Int) + 1) = (g2 : Int) := (IntWalk.i64_in _ (by have := HSUM0.out; omega)).trans (by omega)
            have z8 : IntKind.i64.wrap ((l2.length : Int) + (g2 : Int)) = ((asked : Nat) : Int) := (IntWalk.i64_in _ (by have := HSUM.out; omega)).trans (by have := HSUM.out; omega)
            have z9 : IntKind.u64.wrap ((asked : Nat) : Int) = ((asked : Nat) : Int) := IntWalk.u64_in _ (by omega)
            clear hy hyf hbk4 hal5 hqr hqo5 hbk5 hbel5 hon hel hids4 hqo4 hbel4 hlow4 hty4 hg2 hyl
            go_wp2_with fail
            refine CT2.out.mono ?_
            rintro e w6 ⟨hlow6, hty6, hpost⟩
            have hqo6 := hty6 _ _ _ HQO5.out (by decide) (by decide)
            have hqr6 := hty6 _ _ _ HQR.out (by decide) (by decide)
            have p2 : w6.cell? ⟨wr.heap.size, 2, none⟩ = some (.int .u64 y0) := (cell_of_row _ _ 2 _ _ _ hqo6).trans rfl
            have p0 : w6.cell? ⟨w4.heap.size, 0, none⟩ = some (.int .u64 y0) := (cell_of_row _ _ 0 _ _ _ hqr6).trans rfl
            have hlq6 := lt_of_block hqo6
            have hlr6 := lt_of_block hqr6
            rcases hpost with ⟨i2, z, hz, hzid, _⟩ | ⟨_, v6, rfl, hf6, hbk6⟩
            · exact absurd hzid (HON.out z (List.mem_of_getElem? hz))
            obtain ⟨zz, rfl⟩ := hf6.ne_nil
            dsimp only [rqV, rq0]
            have hal7 : Below w6.heap.size w6 (w6.alloc (.cells #[.int .u64 0, .string ⟨#[]⟩, .bool false, .int .i64 0, .string ⟨#[]⟩, .string ⟨#[]⟩] 30)) := (Below.refl _ _).alloc (Nat.le_refl _) _
            have HBK := Lib.hid (hbk6.below hal7)
            have hbel6 := low_trans HBEL5.out (hlow6.mono hb0)
            have HBEL := Lib.hid (low_trans hbel6 (hal7.mono (show w.heap.size ≤ w6.heap.size by have := hbel6.size; omega)))
            clear hqo6 hqr6 hf6 hbk6 hal7 hbel6 hlow6 hty6 CT2
            go_wp2_with fail
            refine (book_Len b b (asked) l2 _ HBK.out).mono ?_
            rintro e w9 ⟨rfl, rfl⟩
            go_wp2_with fail
            go_roundw
            case rel => exact ⟨i + 1, asked, g2, l2, _, by omega, rfl, by go_num, by go_num, by go_num, HBK.out, HIDS.out, HSUM.out, by omega, HBEL.out⟩
            case measure => simp [intOf]; omega
          · obtain ⟨zz, rfl⟩ := hf.ne_nil
            dsimp only [rqV, rq0]
            have hal5 : Below w4.heap.size w4 (w4.alloc (.cells #[.int .u64 0, .string ⟨#[]⟩, .bool false, .int .i64 0, .string ⟨#[]⟩, .string ⟨#[]⟩] 30)) := (Below.refl _ _).alloc (Nat.le_refl _) _
            have hbk5 := hbk4.below hal5
            have hbel5 := low_trans hbel4 (hal5.mono (show w.heap.size ≤ w4.heap.size by have := hbel4.size; omega))
            have CT2 := Lib.hid (book_Take b b asked l x0 _ hbk5 hlo)
            have HBEL5 := Lib.hid hbel5
            have HNO := Lib.hid hno
            have HIDS := Lib.hid HIDS0.out
            have HSUM := Lib.hid HSUM0.out
            have z8 : IntKind.i64.wrap ((l.length : Int) + (gone : Int)) = ((asked : Nat) : Int) := (IntWalk.i64_in _ (by have := HSUM.out; omega)).trans (by have := HSUM.out; omega)
            have z9 : IntKind.u64.wrap ((asked : Nat) : Int) = ((asked : Nat) : Int) := IntWalk.u64_in _ (by omega)
            clear hbk4 hal5 hbk5 hbel5 hqo4 hbel4 hlow4 hty4 hf hno
            go_wp2_with fail
            refine CT2.out.mono ?_
            rintro e w6 ⟨hlow6, hty6, hpost⟩
            rcases hpost with ⟨i2, z, hz, hzid, _⟩ | ⟨_, v6, rfl, hf6, hbk6⟩
            · exact absurd hzid (HNO.out z (List.mem_of_getElem? hz))
            obtain ⟨zz6, rfl⟩ := hf6.ne_nil
            dsimp only [rqV, rq0]
            have hal7 : Below w6.heap.size w6 (w6.alloc (.cells #[.int .u64 0, .string ⟨#[]⟩, .bool false, .int .i64 0, .string ⟨#[]⟩, .string ⟨#[]⟩] 30)) := (Below.refl _ _).alloc (Nat.le_refl _) _
            have HBK := Lib.hid (hbk6.below hal7)
            have hbel6 := low_trans HBEL5.out (hlow6.mono hb0)
            have HBEL := Lib.hid (low_trans hbel6 (hal7.mono (show w.heap.size ≤ w6.heap.size by have := hbel6.size; omega)))
            clear hf6 hbk6 hal7 hbel6 hlow6 hty6 CT2
            go_wp2_with fail
            refine (book_Len b b (asked) l _ HBK.out).mono ?_
            rintro e w9 ⟨rfl, rfl⟩
            go_wp2_with fail
            go_roundw
            case rel => exact ⟨i + 1, asked, gone, l, _, by omega, rfl, by go_num, by go_num, by go_num, HBK.out, HIDS.out, HSUM.out, by omega, HBEL.out⟩
            case measure => simp [intOf]; omega
      · have e2 : (kk == 2) = false := by rw [beq_eq_false_iff_ne]; exact fun h => k23 (.inl h)
        have e3 : (kk == 3) = false := by rw [beq_eq_false_iff_ne]; exact fun h => k23 (.inr h)
        have CK := Lib.hid (book_Ask b b asked l ⟨x0, x1, x2, x3, x4, x5⟩ (IntKind.u64.wrap (now + bits BinOp.and IntKind.u64 xt 255)) _ HBKO.out hlo (by omega))
        have HIDS := Lib.hid (HIDS0.out.ask ⟨⟨(asked : Int) + 1, x1, x2, x3, x4, x5⟩, IntKind.u64.wrap (now + bits BinOp.and IntKind.u64 xt 255)⟩ rfl)
        have HSUM := Lib.hid (show (l ++ [(⟨⟨(asked : Int) + 1, x1, x2, x3, x4, x5⟩, IntKind.u64.wrap (now + bits BinOp.and IntKind.u64 xt 255)⟩ : Wt)]).length + gone = asked + 1 by have := HSUM0.out; rw [List.length_append]; show l.length + 1 + gone = _; omega)
        have z7 : IntKind.u64.wrap ((asked : Int) + 1) = (asked : Int) + 1 := IntWalk.u64_in _ (by omega)
        have hfd : ∀ W : World, (Instr.field 30 (.agg #[.int .u64 ((asked : Int) + 1), .string x1, .bool x2, .int .i64 x3, .string x4, .string x5]) 0).run Tryd.prog W = .ok (.int .u64 ((asked : Int) + 1)) W := fun _ => by kernel_rfl
        obtain ⟨q0, q1, q2, q3, q4, q5⟩ : _ ∧ _ ∧ _ ∧ _ ∧ _ ∧ _ := ⟨(cell_of_row _ _ 2 _ _ _ HQO.out).trans rfl, (cell_of_row _ _ 3 _ _ _ HQO.out).trans rfl, (cell_of_row _ _ 4 _ _ _ HQO.out).trans rfl, (cell_of_row _ _ 5 _ _ _ HQO.out).trans rfl, (cell_of_row _ _ 6 _ _ _ HQO.out).trans rfl, (cell_of_row _ _ 7 _ _ _ HQO.out).trans rfl⟩
        clear k0 k1 k23
        go_wp2_with fail
        refine CK.out.mono ?_
        rintro e w4 ⟨rfl, hbk4, hlow4⟩
        have HBK := Lib.hid hbk4
        have HBEL := Lib.hid (low_trans HBO.out (hlow4.mono hb0))
        clear hbk4 hlow4 CK
        dsimp only [rqV]
        generalize l ++ [(⟨⟨(asked : Int) + 1, x1, x2, x3, x4, x5⟩, IntKind.u64.wrap (now + bits BinOp.and IntKind.u64 xt 255)⟩ : Wt)] = l2 at *
        have z8 : IntKind.i64.wrap ((l2.length : Int) + (gone : Int)) = (asked : Int) + 1 := (IntWalk.i64_in _ (by have := HSUM.out; omega)).trans (by have := HSUM.out; omega)
        go_wp2_with fail
        refine (book_Len b b ((asked + 1)) l2 _ HBK.out).mono ?_
        rintro e w9 ⟨rfl, rfl⟩
        go_wp2_with fail
        go_roundw
        case rel => exact ⟨i + 1, (asked + 1), gone, l2, _, by omega, rfl, by go_num, by go_num, by go_num, HBK.out, HIDS.out, HSUM.out, by omega, HBEL.out⟩
        case measure => simp [intOf]; omega
    · obtain rfl : i = S.length := by omega
      go_wp2_with fail
      go_ret
      exact ⟨rfl, hbr⟩
end Go.Proofs.YtkgifenidmbdkaaDoor
