/- quad.Text. -/
import Derived.Test.YtpaeloadmjblpaaDoorQuadJoin
import Derived.Test.YtpaeloadmjblpaaDoorQuadTextPlain
import Derived.Test.YtpaeloadmjblpaaDoorQuadOf
import Derived.Test.YtpaeloadmjblpaaDoorRowed
import Derived.Test.YtpaeloadmjblpaaDoorRowSl
namespace Go.Proofs.YtpaeloadmjblpaaDoor
open Go.RowKit

theorem join_text (a b c d : Nat) : (⟨(joinL (decS a) (decS b) (decS c) (decS d)).toArray⟩ : ByteArray) = textT a b c d := by
  unfold textT
  rw [joinTo_more _ _ 3 (by omega), joinTo_more _ _ 2 (by omega), joinTo_more _ _ 1 (by omega), joinTo_one]
  apply ba_ext
  simp only [data_append]
  unfold joinL partsT
  simp [joinTo]
theorem four_of {w : World} {base : Nat} {v : Value} {a b c d : ByteArray} (h : w.ownsRow base 9 1 v 4 [strV a, strV b, strV c, strV d]) : ∃ g cap, v = .slice (some ⟨g, 0, none⟩) 4 cap ∧ 4 ≤ cap ∧ cap ≤ maxLen ∧ Four w g a b c d := by
  obtain ⟨x, cap, rfl, h1, h2, h3⟩ := row_sl h rfl
  obtain ⟨g, rfl, hg, c0⟩ := h3 0 _ rfl
  obtain ⟨_, e1, _, c1⟩ := h3 1 _ rfl
  obtain ⟨_, e2, _, c2⟩ := h3 2 _ rfl
  obtain ⟨_, e3, _, c3⟩ := h3 3 _ rfl
  cases e1
  cases e2
  cases e3
  exact ⟨g, cap, rfl, h1, h2, hg, c0, c1, c2, c3⟩
theorem fold_dec (x : Nat) (hx : x < 256) (w : World) : Calls Tryd.prog 36 #[.int .u64 (x : Int)] w fun e w' => e = .returned (.string (decS x)) ∧ Below w.heap.size w w' := fold_Digits x w (by omega)
set_option maxHeartbeats 6400000 in
set_option maxRecDepth 100000 in
theorem quad_Text (a b c d : Nat) (ha : a < 256) (hb : b < 256) (hc : c < 256) (hd : d < 256) (w : World) : Calls Tryd.prog 15 #[.agg #[.int .u8 (a : Int), .int .u8 (b : Int), .int .u8 (c : Int), .int .u8 (d : Int)]] w fun e w' => e = .returned (.string (textT a b c d)) ∧ Below w.heap.size w w' := by
  obtain ⟨i0, hi, hz0, hz1, hz2⟩ := info_parts info_string
  have x0 : ∀ W : World, (Instr.index 25 (.agg #[.int .u8 (a : Int), .int .u8 (b : Int), .int .u8 (c : Int), .int .u8 (d : Int)]) (.int .i64 0)).run Tryd.prog W = .ok (.int .u8 (a : Int)) W := fun W => by kernel_rfl
  have x1 : ∀ W : World, (Instr.index 25 (.agg #[.int .u8 (a : Int), .int .u8 (b : Int), .int .u8 (c : Int), .int .u8 (d : Int)]) (.int .i64 1)).run Tryd.prog W = .ok (.int .u8 (b : Int)) W := fun W => by kernel_rfl
  have x2 : ∀ W : World, (Instr.index 25 (.agg #[.int .u8 (a : Int), .int .u8 (b : Int), .int .u8 (c : Int), .int .u8 (d : Int)]) (.int .i64 2)).run Tryd.prog W = .ok (.int .u8 (c : Int)) W := fun W => by kernel_rfl
  have x3 : ∀ W : World, (Instr.index 25 (.agg #[.int .u8 (a : Int), .int .u8 (b : Int), .int .u8 (c : Int), .int .u8 (d : Int)]) (.int .i64 3)).run Tryd.prog W = .ok (.int .u8 (d : Int)) W := fun W => by kernel_rfl
  have HJ := Lib.hid (join_text a b c d)
  have za := (dec_facts ha).2.2.2.1
  have zb := (dec_facts hb).2.2.2.1
  have zc := (dec_facts hc).2.2.2.1
  have zd := (dec_facts hd).2.2.2.1
  have ca := Lib.hid (fun W => fold_dec a ha W)
  have cb := Lib.hid (fun W => fold_dec b hb W)
  have cc := Lib.hid (fun W => fold_dec c hc W)
  have cd := Lib.hid (fun W => fold_dec d hd W)
  generalize decS a = sa at *
  generalize decS b = sb at *
  generalize decS c = sc at *
  generalize decS d = sd at *
  go_enter Tryd.func15, Tryd.ntmps15
  go_wp2_with fail
  refine wp_loop_rounds 5 ?_
  have hb0 : Below w.heap.size w (w.alloc (.cells #[.int .u8 (a : Int), .int .u8 (b : Int), .int .u8 (c : Int), .int .u8 (d : Int)] 25)) := (Below.refl _ _).alloc (Nat.le_refl _) _
  have hown0 := World.ownsRow_nil (w.alloc (.cells #[.int .u8 (a : Int), .int .u8 (b : Int), .int .u8 (c : Int), .int .u8 (d : Int)] 25)) w.heap.size 9 1
  rw [rounds_succ]
  go_wp2_with fail
  refine (ca.out _).mono ?_
  rintro e u0 ⟨rfl, hu0⟩
  have hbb0 := Bt hb0 hu0
  have ho0 := ownsRow_below hown0 hu0
  clear hown0 hb0 hu0
  go_wp2_with (at_builtin; refine wpList_append_own _ rfl _ _ 43 rfl w.heap.size 9 i0 (.string ByteArray.empty) 1 16 Tryd.underlying43 hi hz0 hz1 hz2 rfl (by decide) _ 0 [] rfl (ho0.alloc _) ⟨u0.heap.size, 0, none⟩ 1 1 [strV sa] rfl rfl ?c1 ?c2 ?c3 ?c4 ?c5 ?_)
  case c1 =>
    intro j u hj
    match j, hj with
    | 0, hj => simp at hj; subst hj; simp [Addr.add, strV]
  case c2 => intro u hu; simp at hu; subst hu; rfl
  case c3 => unfold maxLen; omega
  case c4 => omega
  case c5 => have := hbb0.size; simp; omega
  intro v1 w1 hown1 hg1 _
  have hown1 : w1.ownsRow w.heap.size 9 1 v1 1 [strV sa] := hown1
  have hb1 : Below w.heap.size w w1 := below_app hbb0 ho0 (Nat.le_refl _) hg1
  clear hg1 ho0 hbb0
  obtain ⟨q0, r0, rfl, _, _⟩ := ownsRow_form hown1 (by omega)
  go_wp2_with fail
  rw [rounds_succ]
  go_wp2_with fail
  refine (cb.out _).mono ?_
  rintro e u1 ⟨rfl, hu1⟩
  have hbb1 := Bt hb1 hu1
  have ho1 := ownsRow_below hown1 hu1
  clear hown1 hb1 hu1
  go_wp2_with (at_builtin; refine wpList_append_own _ rfl _ _ 43 rfl w.heap.size 9 i0 (.string ByteArray.empty) 1 16 Tryd.underlying43 hi hz0 hz1 hz2 rfl (by decide) _ 1 [strV sa] rfl (ho1.alloc _) ⟨u1.heap.size, 0, none⟩ 1 1 [strV sb] rfl rfl ?c1 ?c2 ?c3 ?c4 ?c5 ?_)
  case c1 =>
    intro j u hj
    match j, hj with
    | 0, hj => simp at hj; subst hj; simp [Addr.add, strV]
  case c2 => intro u hu; simp at hu; subst hu; rfl
  case c3 => unfold maxLen; omega
  case c4 => omega
  case c5 => have := hbb1.size; simp; omega
  intro v2 w2 hown2 hg2 _
  have hown2 : w2.ownsRow w.heap.size 9 1 v2 2 [strV sa, strV sb] := hown2
  have hb2 : Below w.heap.size w w2 := below_app hbb1 ho1 (Nat.le_refl _) hg2
  clear hg2 ho1 hbb1
  obtain ⟨q1, r1, rfl, _, _⟩ := ownsRow_form hown2 (by omega)
  go_wp2_with fail
  rw [rounds_succ]
  go_wp2_with fail
  refine (cc.out _).mono ?_
  rintro e u2 ⟨rfl, hu2⟩
  have hbb2 := Bt hb2 hu2
  have ho2 := ownsRow_below hown2 hu2
  clear hown2 hb2 hu2
  go_wp2_with (at_builtin; refine wpList_append_own _ rfl _ _ 43 rfl w.heap.size 9 i0 (.string ByteArray.empty) 1 16 Tryd.underlying43 hi hz0 hz1 hz2 rfl (by decide) _ 2 [strV sa, strV sb] rfl (ho2.alloc _) ⟨u2.heap.size, 0, none⟩ 1 1 [strV sc] rfl rfl ?c1 ?c2 ?c3 ?c4 ?c5 ?_)
  case c1 =>
    intro j u hj
    match j, hj with
    | 0, hj => simp at hj; subst hj; simp [Addr.add, strV]
  case c2 => intro u hu; simp at hu; subst hu; rfl
  case c3 => unfold maxLen; omega
  case c4 => omega
  case c5 => have := hbb2.size; simp; omega
  intro v3 w3 hown3 hg3 _
  have hown3 : w3.ownsRow w.heap.size 9 1 v3 3 [strV sa, strV sb, strV sc] := hown3
  have hb3 : Below w.heap.size w w3 := below_app hbb2 ho2 (Nat.le_refl _) hg3
  clear hg3 ho2 hbb2
  obtain ⟨q2, r2, rfl, _, _⟩ := ownsRow_form hown3 (by omega)
  go_wp2_with fail
  rw [rounds_succ]
  go_wp2_with fail
  refine (cd.out _).mono ?_
  rintro e u3 ⟨rfl, hu3⟩
  have hbb3 := Bt hb3 hu3
  have ho3 := ownsRow_below hown3 hu3
  clear hown3 hb3 hu3
  go_wp2_with (at_builtin; refine wpList_append_own _ rfl _ _ 43 rfl w.heap.size 9 i0 (.string ByteArray.empty) 1 16 Tryd.underlying43 hi hz0 hz1 hz2 rfl (by decide) _ 3 [strV sa, strV sb, strV sc] rfl (ho3.alloc _) ⟨u3.heap.size, 0, none⟩ 1 1 [strV sd] rfl rfl ?c1 ?c2 ?c3 ?c4 ?c5 ?_)
  case c1 =>
    intro j u hj
    match j, hj with
    | 0, hj => simp at hj; subst hj; simp [Addr.add, strV]
  case c2 => intro u hu; simp at hu; subst hu; rfl
  case c3 => unfold maxLen; omega
  case c4 => omega
  case c5 => have := hbb3.size; simp; omega
  intro v4 w4 hown4 hg4 _
  have hown4 : w4.ownsRow w.heap.size 9 1 v4 4 [strV sa, strV sb, strV sc, strV sd] := hown4
  have hb4 : Below w.heap.size w w4 := below_app hbb3 ho3 (Nat.le_refl _) hg4
  clear hg4 ho3 hbb3
  obtain ⟨g, cap, rfl, hcap, hcm, hF⟩ := four_of hown4
  clear hown4
  go_wp2_with fail
  rw [rounds_succ]
  go_wp2_with fail
  refine (join4 g cap sa sb sc sd _ hF za zb zc zd hcap hcm).mono ?_
  rintro e w5 ⟨rfl, hb5⟩
  rw [HJ.out]
  have hb45 := Bt hb4 hb5
  go_wp2_with fail
  go_ret
  exact ⟨rfl, hb45⟩
end Go.Proofs.YtpaeloadmjblpaaDoor
