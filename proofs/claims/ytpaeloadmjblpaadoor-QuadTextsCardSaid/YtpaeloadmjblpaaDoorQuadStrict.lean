/- quad.Strict. -/
import Derived.Test.YtpaeloadmjblpaaDoorQuadText
import Derived.Test.YtpaeloadmjblpaaDoorQuadParse
import Derived.Test.YtpaeloadmjblpaaDoorV4Eq
import Derived.Test.YtpaeloadmjblpaaDoorKind
import Derived.Test.YtpaeloadmjblpaaDoorHandle
namespace Go.Proofs.YtpaeloadmjblpaaDoor
open Go.RowKit

def strictB (s : ByteArray) : Bool := decide ((parseQ s).2.1 = 0) && decide (textN (parseQ s).1 = s)
def StrictPost (s : ByteArray) (w : World) (e : Ending) (w' : World) : Prop := Below w.heap.size w w' ∧ ((strictB s = true ∧ e = .returned (.tuple #[v4N (parseQ s).1, .nilIface])) ∨ (strictB s = false ∧ ∃ v, e = .returned (.tuple #[v4N 0, v]) ∧ IsFault w' v 11 0))
theorem quad_TextN (n : Nat) (w : World) : Calls Tryd.prog 15 #[v4N n] w fun e w' => e = .returned (.string (textN n)) ∧ Below w.heap.size w w' :=
  quad_Text (n / 16777216 % 256) (n / 65536 % 256) (n / 256 % 256) (n % 256) (by omega) (by omega) (by omega) (by omega) w
set_option maxHeartbeats 3200000 in
set_option maxRecDepth 100000 in
theorem quad_Strict (s : ByteArray) (hs : s.size ≤ 16777216) (w : World) (hg : Handle w) : Calls Tryd.prog 16 #[.string s] w (StrictPost s w) := by
  have cQ' : ∀ W : World, Calls Tryd.prog 9 #[.string s] W fun e w' => Below W.heap.size W w' ∧ ∃ v, e = .returned (.tuple #[v4N (parseQ s).1, v]) ∧ IsErrN w' v (parseQ s).2.1 (parseQ s).2.2 := fun W => quad_Parse s hs W
  have cT' := fun W => quad_TextN (parseQ s).1 W
  have hyes : (parseQ s).2.1 = 0 → textN (parseQ s).1 = s → strictB s = true := fun h1 h2 => by unfold strictB; rw [decide_eq_true h1, decide_eq_true h2]; rfl
  have hno1 : (parseQ s).2.1 ≠ 0 → strictB s = false := fun h1 => by unfold strictB; rw [decide_eq_false h1]; rfl
  have hno2 : textN (parseQ s).1 ≠ s → strictB s = false := fun h1 => by unfold strictB; rw [decide_eq_false h1]; simp
  have hpost : ∀ e w', StrictPost s w e w' ↔ (Below w.heap.size w w' ∧ ((strictB s = true ∧ e = .returned (.tuple #[v4N (parseQ s).1, .nilIface])) ∨ (strictB s = false ∧ ∃ v, e = .returned (.tuple #[v4N 0, v]) ∧ IsFault w' v 11 0))) := fun _ _ => Iff.rfl
  generalize (parseQ s).2.1 = k at *
  generalize (parseQ s).2.2 = i at *
  generalize textN (parseQ s).1 = tx at *
  obtain ⟨x0, x1, x2, x3, hx⟩ : ∃ a b c d : Int, v4N (parseQ s).1 = .agg #[.int .u8 a, .int .u8 b, .int .u8 c, .int .u8 d] := ⟨_, _, _, _, rfl⟩
  rw [hx] at cQ' cT'
  simp only [hx] at hpost
  have cQ := Lib.hid cQ'
  have cT := Lib.hid cT'
  have HPOST := Lib.hid hpost
  have HYES := Lib.hid hyes
  have HNO1 := Lib.hid hno1
  have HNO2 := Lib.hid hno2
  clear cQ' cT' hpost hx hyes hno1 hno2
  go_enter Tryd.func16, Tryd.ntmps16
  go_wp2_with fail
  refine (cQ.out _).mono ?_
  rintro e w2 ⟨hb2, v, rfl, hv⟩
  have hz2 := (V4At.new w).below hb2
  have hb12 : Below w.heap.size w w2 := ((Below.refl _ _).alloc (Nat.le_refl _) _).trans (hb2.mono (by simp))
  have hg2 := hg.below hb12
  clear hb2
  have hal2 : Below w2.heap.size w2 (w2.alloc (.cells #[.int .u8 x0, .int .u8 x1, .int .u8 x2, .int .u8 x3] 25)) := (Below.refl _ _).alloc (Nat.le_refl _) _
  have hma := V4At.made w2 x0 x1 x2 x3
  have hzm := hz2.below hal2
  have hbm := hb12.trans (hal2.mono (Nat.le_of_lt hz2.lt))
  have hvm := hv.below hal2
  have hgm := hg2.below hal2
  have hblk : w2.heap.size < (w2.alloc (.cells #[.int .u8 x0, .int .u8 x1, .int .u8 x2, .int .u8 x3] 25)).heap.size := hma.lt
  rcases hvm with ⟨rfl, rfl⟩ | ⟨hk, hv2⟩
  · clear hv hgm hg2
    go_wp2_with fail
    refine (as_nil _ _).mono ?_
    rintro e w3 ⟨rfl, rfl⟩
    go_wp2_with fail
    refine (cT.out _).mono ?_
    rintro e w4 ⟨rfl, hb4⟩
    have hal3 : Below (w2.alloc (.cells #[.int .u8 x0, .int .u8 x1, .int .u8 x2, .int .u8 x3] 25)).heap.size (w2.alloc (.cells #[.int .u8 x0, .int .u8 x1, .int .u8 x2, .int .u8 x3] 25)) ((w2.alloc (.cells #[.int .u8 x0, .int .u8 x1, .int .u8 x2, .int .u8 x3] 25)).alloc (.cells #[.pointer none] 59)) := (Below.refl _ _).alloc (Nat.le_refl _) _
    have hz4 := (hzm.below hal3).below hb4
    have hma4 := (hma.below hal3).below hb4
    have hb14 := (hbm.trans (hal3.mono (Nat.le_of_lt hzm.lt))).trans (hb4.mono (Nat.le_of_lt (hzm.below hal3).lt))
    obtain ⟨c0, c1, c2, c3⟩ := hma4.cells
    clear hal3 hal2 hma hzm hbm hb4 hma4 hz2 hb12 hblk
    by_cases hts : tx = s
    · have HY := Lib.hid (HYES.out (by first | rfl | trivial) hts)
      have et : (tx.toList == s.toList) = true := by rw [hts]; exact beq_self_eq_true _
      clear hts
      go_wp2_with (refine wpList_store_v4 (o := ⟨none, _, _, _, _, _⟩) rfl _ _ rfl w.heap.size x0 x1 x2 x3 rfl rfl _ hz4 ?_; intro hst)
      (try simp only [Exit.inBlock, Exit.then])
      refine bodyPost_ret (results_v4 rfl rfl hst) rfl ?_
      exact (HPOST.out _ _).2 ⟨below_setRow hb14 (Nat.le_refl _) _, .inl ⟨HY.out, rfl⟩⟩
    · have HNO := Lib.hid (HNO2.out hts)
      have et : (tx.toList == s.toList) = false := by rw [str_eqB, decide_eq_false hts]
      clear hts
      go_wp2_with fail
      refine (api_Fail' 11 0 _).mono ?_
      rintro e w7 ⟨f, rfl, hf, hb7⟩
      have hz7 := hz4.below hb7
      have hb17 := hb14.trans (hb7.mono (Nat.le_of_lt hz4.lt))
      have HF := Lib.hid hf
      obtain ⟨q, rfl⟩ := hf.ne_nil
      clear hf
      go_wp2_with (refine wpList_store_v4 (o := ⟨none, _, _, _, _, _⟩) rfl _ _ rfl w.heap.size 0 0 0 0 rfl rfl _ hz7 ?_; intro hst)
      (try simp only [Exit.inBlock, Exit.then])
      refine bodyPost_ret (results_v4 rfl rfl hst) rfl ?_
      exact (HPOST.out _ _).2 ⟨below_setRow hb17 (Nat.le_refl _) _, .inr ⟨HNO.out, _, rfl, HF.out.setV4 hz7 _⟩⟩
  · have HNO := Lib.hid (HNO1.out hk)
    obtain ⟨b, rfl, hfb⟩ := hv2
    clear hv hk hma hal2 hblk
    go_wp2_with fail
    have hsz : (w2.alloc (.cells #[.int .u8 x0, .int .u8 x1, .int .u8 x2, .int .u8 x3] 25)).heap.size = w2.heap.size + 1 := by simp
    rw [← hsz]
    clear hsz
    generalize w2.alloc (.cells #[.int .u8 x0, .int .u8 x1, .int .u8 x2, .int .u8 x3] 25) = wm at *
    have hg1 := hgm.below ((Below.refl _ _).alloc (Nat.le_refl _) (.cells #[.pointer none] 59))
    have ht1 : (wm.alloc (.cells #[.pointer none] 59)).cell? ⟨wm.heap.size, 0, none⟩ = some (.pointer none) := by simp
    have hf1 : (wm.alloc (.cells #[.pointer none] 59)).frozen? ⟨wm.heap.size, 0, none⟩ = false := by simp
    refine (as_hit ⟨b, 0, none⟩ ⟨wm.heap.size, 0, none⟩ (.pointer none) _ hg1 ht1 hf1).mono ?_
    rintro e w' ⟨rfl, hw⟩
    obtain ⟨hb4, _⟩ := as_world b wm _ w' rfl hw
    have hz4 := hzm.below hb4
    have hb14 := hbm.trans (hb4.mono (Nat.le_of_lt hzm.lt))
    clear hw hg1 ht1 hf1 hfb hb4 hzm hbm hgm
    go_wp2_with fail
    refine (api_Fail' 11 0 _).mono ?_
    rintro e w7 ⟨f, rfl, hf, hb7⟩
    have hz7 := hz4.below hb7
    have hb17 := hb14.trans (hb7.mono (Nat.le_of_lt hz4.lt))
    have HF := Lib.hid hf
    obtain ⟨q, rfl⟩ := hf.ne_nil
    clear hf
    go_wp2_with (refine wpList_store_v4 (o := ⟨none, _, _, _, _, _⟩) rfl _ _ rfl w.heap.size 0 0 0 0 rfl rfl _ hz7 ?_; intro hst)
    (try simp only [Exit.inBlock, Exit.then])
    refine bodyPost_ret (results_v4 rfl rfl hst) rfl ?_
    exact (HPOST.out _ _).2 ⟨below_setRow hb17 (Nat.le_refl _) _, .inr ⟨HNO.out, _, rfl, HF.out.setV4 hz7 _⟩⟩
end Go.Proofs.YtpaeloadmjblpaaDoor
