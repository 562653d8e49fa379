/- The reference's Text of chapter 11. -/
import Derived.Test.YtpaeloadmjblpaaDoorQuadTextPlain
import Derived.Test.YtpaeloadmjblpaaDoorQuadOf
import Derived.Test.YtpaeloadmjblpaaDoorRefWritten
namespace Go.Proofs.YtpaeloadmjblpaaDoor
open Go.RowKit

theorem ref_dec (x : Nat) (hx : x < 256) (w : World) : Calls Tryd.prog 38 #[.int .u64 (x : Int), .int .u64 10, .int .i64 1] w fun e w' => e = .returned (.string (decS x)) ∧ ∃ q, w.drewN q = w' := ref_Written x 10 1 w (by omega) (by omega) (by omega) (by omega) (by omega)
set_option maxHeartbeats 6400000 in
set_option maxRecDepth 100000 in
theorem ref11_Text (a b c d : Nat) (ha : a < 256) (hb : b < 256) (hc : c < 256) (hd : d < 256) (w : World) : Calls Tryd.prog 17 #[.agg #[.int .u8 (a : Int), .int .u8 (b : Int), .int .u8 (c : Int), .int .u8 (d : Int)]] w fun e w' => e = .returned (.string (textT a b c d)) ∧ Below w.heap.size w w' := by
  have za := (dec_facts ha).2.2.2.1
  have zb := (dec_facts hb).2.2.2.1
  have zc := (dec_facts hc).2.2.2.1
  have zd := (dec_facts hd).2.2.2.1
  have ca := Lib.hid (fun W => ref_dec a ha W)
  have cb := Lib.hid (fun W => ref_dec b hb W)
  have cc := Lib.hid (fun W => ref_dec c hc W)
  have cd := Lib.hid (fun W => ref_dec d hd W)
  have hj : ByteArray.empty ++ decS a ++ ⟨#[46]⟩ ++ decS b ++ ⟨#[46]⟩ ++ decS c ++ ⟨#[46]⟩ ++ decS d = textT a b c d := by
    unfold textT
    rw [joinTo_more _ _ 3 (by omega), joinTo_more _ _ 2 (by omega), joinTo_more _ _ 1 (by omega), joinTo_one]
    rfl
  have HJ := Lib.hid hj
  clear hj
  generalize decS a = sa at *
  generalize decS b = sb at *
  generalize decS c = sc at *
  generalize decS d = sd at *
  have hb0 : Below w.heap.size w (w.alloc (.cells #[.int .u8 (a : Int), .int .u8 (b : Int), .int .u8 (c : Int), .int .u8 (d : Int)] 25)) := (Below.refl _ _).alloc (Nat.le_refl _) _
  go_enter Tryd.func17, Tryd.ntmps17
  go_wp2_with fail
  refine wp_loop_rounds 5 ?_
  rw [rounds_succ]
  go_wp2_with fail
  refine (ca.out _).mono ?_
  rintro e w2 ⟨rfl, q1, rfl⟩
  go_wp2_with fail
  rw [rounds_succ]
  go_wp2_with fail
  refine (cb.out _).mono ?_
  rintro e w2 ⟨rfl, q2, rfl⟩
  go_wp2_with fail
  rw [rounds_succ]
  go_wp2_with fail
  refine (cc.out _).mono ?_
  rintro e w2 ⟨rfl, q3, rfl⟩
  go_wp2_with fail
  rw [rounds_succ]
  go_wp2_with fail
  refine (cd.out _).mono ?_
  rintro e w2 ⟨rfl, q4, rfl⟩
  go_wp2_with fail
  rw [rounds_succ]
  go_wp2_with fail
  go_ret
  exact ⟨ret_str HJ.out, below_drewN hb0 _⟩
end Go.Proofs.YtpaeloadmjblpaaDoor
