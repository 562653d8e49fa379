/- The walk of GlobMatches. -/
import Derived.Test.YtlnnimmiifdnnaaDoorRefLeast
import Derived.Test.YtlnnimmiifdnnaaDoorTold15
namespace Go.Proofs.YtlnnimmiifdnnaaDoor
open Go.RowKit

theorem Check_isErr {p : ByteArray} {w w' : World} {e : Ending} (h : CheckPost p w e w') : ∃ v, e = .returned v ∧ IsErr w' v (chkP p).1 (chkP p).2 := by
  rcases h.2 with ⟨_, hk, rfl⟩ | ⟨_, hk, v, rfl, hv⟩
  · exact ⟨_, rfl, .inl ⟨by rw [hk], rfl⟩⟩
  · exact ⟨v, rfl, hv.isErr hk⟩

set_option maxHeartbeats 800000 in
theorem matches_long (p s : ByteArray) (f : Bool) (w : World) (hU : Utf8Laid w) (h : 1100 < p.size ∨ (p.size ≤ 1100 ∧ 500 < s.size) ∨ (p.size ≤ 1100 ∧ s.size ≤ 500 ∧ 100 < p.size ∧ 100 < s.size)) :
    Calls Tryd.prog 7 #[.string p, .string s, .bool f] w fun e w' => e = .returned (.bool true) ∧ Below w.heap.size w w' := by
  rcases h with h | ⟨h, h'⟩ | ⟨h, h', h2, h3⟩
  all_goals
    go_enter Tryd.func7, Tryd.ntmps7
    go_wp2_with fail
    refine (speaks15 _ hU).mono ?_
    rintro e w1 ⟨rfl, hb1⟩
    go_wp2_with fail
    go_ret
    exact ⟨rfl, hb1⟩

set_option maxHeartbeats 6400000 in
set_option maxRecDepth 100000 in
theorem matches_walk (p s : ByteArray) (f : Bool) (w : World) (hU : Utf8Laid w) (hg : Handle w) (hp : p.size ≤ 1100) (hs : s.size ≤ 500) (hps : p.size ≤ 100 ∨ (100 < p.size ∧ s.size ≤ 100)) :
    Calls Tryd.prog 7 #[.string p, .string s, .bool f] w fun e w' => e = .returned (.bool true) ∧ Below w.heap.size w w' := by
  have c1' : ∀ W : World, Calls Tryd.prog 20 #[.string p] W fun e w' => Below W.heap.size W w' ∧ e = .returned (.tuple #[.int .i64 ((chkP p).1 : Int), .int .i64 ((chkP p).2 : Int)]) := fun W => ref_Check p W (by omega)
  have c1 := Lib.hid c1'
  clear c1'
  have c2 := Lib.hid (fun W h => glob_Match p s f W h (by omega) (by omega))
  have c3 := Lib.hid (fun W => ref_Match p s f W (by omega) (by omega))
  have c4 := Lib.hid (fun W h => (glob_Check p W h (by omega)).mono fun e w' h => And.intro h.1 (Check_isErr h))
  have c5 := Lib.hid (fun v W hg hv => told15 v (chkP p).1 (chkP p).2 W hg hv)
  have c6 := Lib.hid (fun W => glob_Lead p W (by omega))
  have c7 := Lib.hid (fun W => ref_Lead p W (by omega))
  have c8 := Lib.hid (fun W h => glob_Least p W h (by omega))
  have c9 := Lib.hid (fun W => ref_Least p W (by omega))
  generalize (chkP p).1 = k0 at *
  generalize (chkP p).2 = k1 at *
  generalize hm : matchB p s f = m at *
  clear hm
  generalize leadS p = ls at *
  generalize leastN p = ln at *
  have e1 : (ls.toList == ls.toList) = true := beq_self_eq_true _
  have e2 : ((ln : Int) == (ln : Int)) = true := beq_self_eq_true _
  have e3 : (m == m) = true := beq_self_eq_true _
  rcases hps with hps | ⟨hps, hps2⟩
  all_goals
    go_enter Tryd.func7, Tryd.ntmps7
    go_wp2_with fail
    refine (speaks15 _ hU).mono ?_
    rintro e w1 ⟨rfl, hb1⟩
    have hU1 := hU.below hb1
    have hg1 := hg.below hb1
    go_wp2_with fail
    refine (c1.out _).mono ?_
    rintro e w2 ⟨hb2, rfl⟩
    have hU2 := hU1.below hb2
    have hg2 := hg1.below hb2
    have hb12 := Bt hb1 hb2
    clear hb1 hb2 hU1 hg1
    go_wp2_with fail
    refine (c2.out _ hU2).mono ?_
    rintro e w3 ⟨rfl, hb3⟩
    have hU3 := hU2.below hb3
    have hg3 := hg2.below hb3
    have hb13 := Bt hb12 hb3
    clear hb12 hb3 hU2 hg2
    go_wp2_with fail
    refine (c3.out _).mono ?_
    rintro e w4 ⟨rfl, hb4⟩
    have hU4 := hU3.below hb4
    have hg4 := hg3.below hb4
    have hb14 := Bt hb13 hb4
    clear hb13 hb4 hU3 hg3
    go_wp2_with fail
    refine (c4.out _ hU4).mono ?_
    rintro e w5 ⟨hb5, v5, rfl, hv5⟩
    have hU5 := hU4.below hb5
    have hg5 := hg4.below hb5
    have hb15 := Bt hb14 hb5
    clear hb14 hb5 hU4 hg4
    have c5' := Lib.hid (c5.out v5 _ hg5 hv5)
    clear hv5
    go_wp2_with fail
    refine c5'.out.mono ?_
    rintro e w6 ⟨rfl, hb6⟩
    have hU6 := hU5.below hb6
    have hb16 := Bt hb15 hb6
    clear hb15 hb6 hU5
    go_wp2_with fail
    refine (c6.out _).mono ?_
    rintro e w7 ⟨rfl, rfl⟩
    go_wp2_with fail
    refine (c7.out _).mono ?_
    rintro e w7 ⟨rfl, rfl⟩
    go_wp2_with fail
    refine (c8.out _ hU6).mono ?_
    rintro e w8 ⟨rfl, hb8⟩
    have hb18 := Bt hb16 hb8
    go_wp2_with fail
    refine (c9.out _).mono ?_
    rintro e w9 ⟨rfl, hb9⟩
    have hb19 := Bt hb18 hb9
    go_wp2_with fail
    go_ret
    exact ⟨rfl, hb19⟩

theorem walkGlobMatches (p s : ByteArray) (f : Bool) (w : World) (hg : Handle w) (hU : Utf8Laid w) (_ : p.size ≤ maxLen) (_ : s.size ≤ maxLen) : Calls Tryd.prog 7 #[.string p, .string s, .bool f] w fun e w' => e = .returned (.bool true) ∧ Below w.heap.size w w' := by
  by_cases h : p.size ≤ 1100 ∧ s.size ≤ 500 ∧ (p.size ≤ 100 ∨ s.size ≤ 100)
  · exact matches_walk p s f w hU hg h.1 h.2.1 (by omega)
  · exact matches_long p s f w hU (by omega)
end Go.Proofs.YtlnnimmiifdnnaaDoor
