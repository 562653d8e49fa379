/- The walk of GlobSimple. -/
import Derived.Test.YtlnnimmiifdnnaaDoorGlobRefSimple2
import Derived.Test.YtlnnimmiifdnnaaDoorGlobSpeaks
import Derived.Test.YtlnnimmiifdnnaaDoorTold15
namespace Go.Proofs.YtlnnimmiifdnnaaDoor
open Go.RowKit

set_option maxHeartbeats 800000 in
theorem simple_long (p s : ByteArray) (w : World) (hU : Utf8Laid w) (h : 1100 < p.size ∨ (p.size ≤ 1100 ∧ 500 < s.size) ∨ (p.size ≤ 1100 ∧ s.size ≤ 500 ∧ 100 < p.size ∧ 100 < s.size)) :
    Calls Tryd.prog 6 #[.string p, .string s] w fun e w' => e = .returned (.bool true) ∧ Below w.heap.size w w' := by
  rcases h with h | ⟨h, h'⟩ | ⟨h, h', h2, h3⟩
  all_goals
    go_enter Tryd.func6, Tryd.ntmps6
    go_wp2_with fail
    refine (speaks15 _ hU).mono ?_
    rintro e w1 ⟨rfl, hb1⟩
    go_wp2_with fail
    go_ret
    exact ⟨rfl, hb1⟩

set_option maxHeartbeats 6400000 in
set_option maxRecDepth 100000 in
theorem simple_walk (p s : ByteArray) (w : World) (hU : Utf8Laid w) (hg : Handle w) (hp : p.size ≤ 1100) (hs : s.size ≤ 500) (hps : p.size ≤ 100 ∨ (100 < p.size ∧ s.size ≤ 100)) :
    Calls Tryd.prog 6 #[.string p, .string s] w fun e w' => e = .returned (.bool true) ∧ Below w.heap.size w w' := by
  have c1' : ∀ W : World, Calls Tryd.prog 16 #[.string p] W fun e w' => Below W.heap.size W w' ∧ e = .returned (.tuple #[.int .i64 ((chkS p (chkP p)).1 : Int), .int .i64 ((chkS p (chkP p)).2 : Int)]) := fun W => ref_CheckSimple p W (by omega)
  have c1 := Lib.hid c1'
  clear c1'
  have c2 := Lib.hid (fun W h => glob_Simple p s W h (by omega) (by omega))
  have c3 := Lib.hid (fun W => ref_Simple p s W (by omega) (by omega))
  have c4' : ∀ (W : World), Utf8Laid W → Calls Tryd.prog 19 #[.string p] W fun e w' => Below W.heap.size W w' ∧ ∃ v, e = .returned v ∧ IsErr w' v (chkS p (chkP p)).1 (chkS p (chkP p)).2 := fun W h => glob_CheckSimple p W h (by omega)
  have c4 := Lib.hid c4'
  clear c4'
  have c5 := Lib.hid (fun v W hg hv => told15 v (chkS p (chkP p)).1 (chkS p (chkP p)).2 W hg hv)
  generalize (chkS p (chkP p)).1 = k0 at *
  generalize (chkS p (chkP p)).2 = k1 at *
  generalize hm : simpleB p s = m at *
  clear hm
  have e3 : (m == m) = true := beq_self_eq_true _
  rcases hps with hps | ⟨hps, hps2⟩
  all_goals
    go_enter Tryd.func6, Tryd.ntmps6
    go_wp2_with fail
    refine (speaks15 _ hU).mono ?_
    rintro e w1 ⟨rfl, hb1⟩
    have hU1 := hU.below hb1
    have hg1 := hg.below hb1
    go_wp2_with fail
    refine (c1.out _).mono ?_
    rintro e w2 ⟨hb2, rfl⟩
    have hU2 := hU1.below hb2
    have hg2 := hg1.below hb2
    have hb12 := Bt hb1 hb2
    clear hb1 hb2 hU1 hg1
    go_wp2_with fail
    refine (c2.out _ hU2).mono ?_
    rintro e w3 ⟨rfl, hb3⟩
    have hU3 := hU2.below hb3
    have hg3 := hg2.below hb3
    have hb13 := Bt hb12 hb3
    clear hb12 hb3 hU2 hg2
    go_wp2_with fail
    refine (c3.out _).mono ?_
    rintro e w4 ⟨rfl, hb4⟩
    have hU4 := hU3.below hb4
    have hg4 := hg3.below hb4
    have hb14 := Bt hb13 hb4
    clear hb13 hb4 hU3 hg3
    go_wp2_with fail
    refine (c4.out _ hU4).mono ?_
    rintro e w5 ⟨hb5, v5, rfl, hv5⟩
    have hg5 := hg4.below hb5
    have hb15 := Bt hb14 hb5
    clear hb14 hb5 hU4 hg4
    have c5' := Lib.hid (c5.out v5 _ hg5 hv5)
    clear hv5
    go_wp2_with fail
    refine c5'.out.mono ?_
    rintro e w6 ⟨rfl, hb6⟩
    have hb16 := Bt hb15 hb6
    go_wp2_with fail
    go_ret
    exact ⟨rfl, hb16⟩

theorem walkGlobSimple (p s : ByteArray) (w : World) (hg : Handle w) (hU : Utf8Laid w) (_ : p.size ≤ maxLen) (_ : s.size ≤ maxLen) : Calls Tryd.prog 6 #[.string p, .string s] w fun e w' => e = .returned (.bool true) ∧ Below w.heap.size w w' := by
  by_cases h : p.size ≤ 1100 ∧ s.size ≤ 500 ∧ (p.size ≤ 100 ∨ s.size ≤ 100)
  · exact simple_walk p s w hU hg h.1 h.2.1 (by omega)
  · exact simple_long p s w hU (by omega)
end Go.Proofs.YtlnnimmiifdnnaaDoor
