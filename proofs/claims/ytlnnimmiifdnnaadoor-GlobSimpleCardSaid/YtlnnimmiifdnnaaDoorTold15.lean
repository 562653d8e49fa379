/- Chapter 15's told: is an error this one, at this place? -/
import Derived.Test.YtlnnimmiifdnnaaDoorKind
namespace Go.Proofs.YtlnnimmiifdnnaaDoor
open Go.RowKit

theorem told15 (v : Value) (k i : Nat) (w : World) (hg : Handle w) (hv : IsErr w v k i) : Calls Tryd.prog 18 #[v, .int .i64 (k : Int), .int .i64 (i : Int)] w fun e w' => e = .returned (.bool true) ∧ Below w.heap.size w w' := by
  have cK := Lib.hid (fault_Kind v k i w hg hv)
  have ek : ((k : Int) == (k : Int)) = true := beq_self_eq_true _
  have ei : ((i : Int) == (i : Int)) = true := beq_self_eq_true _
  rcases hv with ⟨rfl, rfl⟩ | ⟨hk, n, hv⟩
  · go_enter Tryd.func18, Tryd.ntmps18
    go_wp2_with fail
    refine cK.out.mono ?_
    rintro e w1 ⟨rfl, hb1⟩
    go_wp2_with fail
    go_ret
    exact ⟨rfl, hb1⟩
  · have cA := Lib.hid (fun W hg hb => fault_At v k i W hg (.inr ⟨hk, n, FaultIs.below (w := w) hv hb⟩) hk)
    obtain ⟨p, rfl⟩ := hv.ne_nil
    clear hv hk
    go_enter Tryd.func18, Tryd.ntmps18
    go_wp2_with fail
    refine cK.out.mono ?_
    rintro e w1 ⟨rfl, hb1⟩
    have hg1 := hg.below hb1
    go_wp2_with fail
    refine (cA.out _ hg1 hb1).mono ?_
    rintro e w2 ⟨rfl, hb2⟩
    have hb12 := Bt hb1 hb2
    go_wp2_with fail
    go_ret
    exact ⟨rfl, hb12⟩
end Go.Proofs.YtlnnimmiifdnnaaDoor
