/- The walk of UtfNames. -/
import Derived.Test.YtakognfokahaoaaDoorSpeaks01
namespace Go.Proofs.YtakognfokahaoaaDoor
open Go.RowKit

theorem api_Wrap (k i : Int) (t : TypeId) (x : Value) (w : World) : Calls Tryd.prog 18 #[.int .i64 k, .int .i64 i, .iface t x] w fun e w' =>
    e = .returned (.iface 61 (.pointer (some ⟨w.heap.size, 0, none⟩))) ∧ w.alloc (.cells #[.int .i64 k, .int .i64 i, .iface t x] 65) = w' := by
  go_enter Tryd.func18, Tryd.ntmps18
  go_wp2
  go_ret
  exact ⟨rfl, rfl⟩

theorem api_Wrap' (k i : Int) (v : Value) (w : World) (hv : ∃ t x, v = .iface t x) : Calls Tryd.prog 18 #[.int .i64 k, .int .i64 i, v] w fun e w' =>
    ∃ u, e = .returned u ∧ FaultIs w' u k i v ∧ Below w.heap.size w w' := by
  obtain ⟨t, x, rfl⟩ := hv
  exact (api_Wrap k i t x w).mono fun _ _ ⟨he, hw⟩ => ⟨_, he, ⟨_, rfl, by rw [← hw]; exact heap_alloc_new w _⟩, by rw [← hw]; exact (Below.refl _ _).alloc (Nat.le_refl _) _⟩

set_option maxHeartbeats 800000 in
theorem fault_Has2 (v u : Value) (k i k2 i2 n : Int) (w : World) (hv : FaultIs w v k i u) (hu : IsFault w u k2 i2) :
    Calls Tryd.prog 16 #[v, .int .i64 n] w fun e w' => e = .returned (.bool (isKind n k || isKind n k2)) ∧ w = w' := by
  obtain ⟨b, rfl, hblk⟩ := hv
  obtain ⟨b2, rfl, hblk2⟩ := hu
  have C := Lib.hid (errors_Is ⟨b, 0, none⟩ n _ w (errors_is2 b b2 k i k2 i2 n w hblk hblk2))
  clear hblk hblk2
  go_enter Tryd.func16, Tryd.ntmps16
  go_wp2_with fail
  refine C.out.mono ?_
  rintro e w1 ⟨rfl, rfl⟩
  go_wp2_with fail
  go_ret
  exact ⟨rfl, rfl⟩

set_option maxHeartbeats 1600000 in
theorem walkUtfNames (n : Int) (w : World) (hg : Handle w) (hU : Utf8Laid w) (_ : (Lit.int .i64 n).wf = true) :
    Calls Tryd.prog 5 #[.int .i64 n] w fun e w' => e = .returned (.bool true) ∧ Below w.heap.size w w' := by
  go_enter Tryd.func5, Tryd.ntmps5
  go_wp2_with fail
  refine (speaks01 _ hg hU).mono ?_
  rintro e w1 ⟨rfl, hb1⟩
  have hg := hg.below hb1
  clear hU
  go_wp2_with fail
  refine (api_Fail' 11 n _).mono ?_
  rintro e w2 ⟨u, rfl, hu, hb⟩
  have hg := hg.below hb
  have hb1 := Bt hb1 hb
  clear hb
  go_wp2_with fail
  refine (api_Wrap' 33 3 u _ (by obtain ⟨p, rfl⟩ := hu.ne_nil; exact ⟨_, _, rfl⟩)).mono ?_
  rintro e w3 ⟨v, rfl, hv, hb⟩
  have hg := hg.below hb
  have hu := FaultIs.below hu hb
  have hb1 := Bt hb1 hb
  clear hb
  obtain ⟨p1, rfl⟩ := hu.ne_nil
  obtain ⟨p2, rfl⟩ := hv.ne_nil
  go_wp2_with fail
  refine (fault_Kind_is _ _ _ _ _ hg hu).mono ?_
  rintro e w4 ⟨rfl, hb⟩
  have hg := hg.below hb
  have hu := FaultIs.below hu hb
  have hv := FaultIs.below hv hb
  have hb1 := Bt hb1 hb
  clear hb
  go_wp2_with fail
  refine (fault_At_is _ _ _ _ _ hg hu).mono ?_
  rintro e w4 ⟨rfl, hb⟩
  have hg := hg.below hb
  have hu := FaultIs.below hu hb
  have hv := FaultIs.below hv hb
  have hb1 := Bt hb1 hb
  clear hb
  go_wp2_with fail
  refine (fault_Kind_is _ _ _ _ _ hg hv).mono ?_
  rintro e w4 ⟨rfl, hb⟩
  have hg := hg.below hb
  have hu := FaultIs.below hu hb
  have hv := FaultIs.below hv hb
  have hb1 := Bt hb1 hb
  clear hb
  go_wp2_with fail
  refine (fault_At_is _ _ _ _ _ hg hv).mono ?_
  rintro e w4 ⟨rfl, hb⟩
  have hg := hg.below hb
  have hu := FaultIs.below hu hb
  have hv := FaultIs.below hv hb
  have hb1 := Bt hb1 hb
  clear hb
  have k1 : (isKind 33 33 || isKind 33 11) = true := rfl
  have k2 : (isKind 11 33 || isKind 11 11) = true := rfl
  have k3 : (isKind 12 33 || isKind 12 11) = false := rfl
  have k4 : isKind 33 11 = false := rfl
  go_wp2_with fail
  refine (fault_Has2 _ _ _ _ _ _ _ _ hv hu).mono ?_
  rintro e w4 ⟨rfl, rfl⟩
  go_wp2_with fail
  refine (fault_Has2 _ _ _ _ _ _ _ _ hv hu).mono ?_
  rintro e w4 ⟨rfl, rfl⟩
  go_wp2_with fail
  refine (fault_Has2 _ _ _ _ _ _ _ _ hv hu).mono ?_
  rintro e w4 ⟨rfl, rfl⟩
  go_wp2_with fail
  refine (fault_Has _ _ _ _ _ hu).mono ?_
  rintro e w4 ⟨rfl, rfl⟩
  go_wp2_with fail
  go_ret
  exact ⟨rfl, hb1⟩
end Go.Proofs.YtakognfokahaoaaDoor
