/- Rules behind the first one that a URL is as it wants change nothing; one ahead of all that excludes what every URL is lets nothing through; an app that isn't named isn't spoken of. The card: the listed package variables hold what the program's text lays. -/
import Derived.Test.YtibhohpamnpkcaaGreatDoorCards
import Derived.Test.YtibhohpamnpkcaaGreatDoorTie
import Derived.Test.YtibhohpamnpkcaaGreatDoorRouteOrderM33
import Derived.Test.YtibhohpamnpkcaaGreatDoorRouteOrderM34
import Derived.Test.YtibhohpamnpkcaaGreatDoorRouteOrderM5
import Derived.WalkKit
import Derived.ProofKit
import Derived.OpenShut
import Derived.ShutString
import Derived.ChangeOld
import Derived.Below
import Derived.ChangeSame
import Derived.ChangeVars
import Derived.JoinedOf
import Derived.RowKit
import Derived.RowKitTokens
import Derived.LaidLaws
import Derived.LaidHandle
import Derived.Stop.Joined
import Derived.SevenTiedAt
namespace Go.Proofs.YtibhohpamnpkcaaGreatDoor.routeOrder
open Go.ChangeShapes Go.WideShapes Go.ChangeAt Go.RowKit
open Go.ChangeMaps (open_string shut_string)
set_option linter.unusedVariables false

theorem own : ownKnob Tryz.prog.godebug = none := by kernel_rfl
theorem laidOut : laidOutB Tryz.prog = true := by kernel_rfl

theorem laidWorld_met (os : Os) (args : Array Value) : laidMetH Tryz.prog Rows.routeOrderRow.laid ((laidWorld os).forCall (fun _ _ => 0) ⟨#[], args, []⟩).memory :=
  laidMetH_of_parts (laidMet_of_run' 8 (by kernel_rfl) (by kernel_rfl)) (by kernel_rfl)
theorem utf_of_laid {W : World} (h : laidMetH Tryz.prog Rows.routeOrderRow.laid W) : Utf8Laid W :=
  utf8Tabs_of_readsT u8types u8extra (by rw [u8first]; exact data_of_laid h (by first | exact .head _ | exact .tail _ (.head _) | exact .tail _ (.tail _ (.head _)) | exact .tail _ (.tail _ (.tail _ (.head _))) | exact .tail _ (.tail _ (.tail _ (.tail _ (.head _))))) rfl) (by rw [u8accept]; exact data_of_laid h (by first | exact .head _ | exact .tail _ (.head _) | exact .tail _ (.tail _ (.head _)) | exact .tail _ (.tail _ (.tail _ (.head _))) | exact .tail _ (.tail _ (.tail _ (.tail _ (.head _))))) rfl)
theorem class_of_laid {W : World} (h : laidMetH Tryz.prog Rows.routeOrderRow.laid W) : ClassLaid W := class_of_reads (data_of_laid h (by first | exact .head _ | exact .tail _ (.head _) | exact .tail _ (.tail _ (.head _)) | exact .tail _ (.tail _ (.tail _ (.head _))) | exact .tail _ (.tail _ (.tail _ (.tail _ (.head _))))) rfl)

set_option maxRecDepth 100000 in
theorem lifted (os : Os) (started : os.Started) (H : Type) (enc : TypeId × Value → H) :
    ReturnsInHanded {} Tryz.checked os 4 .any (fun w args => (Rows.routeOrderSpec.pre enc Tryz.prog Tryz.f4 [] false w args ∧ laidMetH Tryz.prog Rows.routeOrderRow.laid w) ∧ sizedMet enc Tryz.prog Tryz.f4 (OpenSpec.ofChange Rows.routeOrderSpec) false w args)
      (Rows.routeOrderSpec.post enc Tryz.prog Tryz.f4 false true false false) := by
  refine handed_and_shaped (C := Tryz.checked) (X := fun w _ => laidMetH Tryz.prog Rows.routeOrderRow.laid w) (fun _ _ _ hh h => h.of_heap hh) own started (by kernel_rfl) Tryz.func4
    (ChangeSpec.witness_at (enc := enc) (C := Tryz.checked) (os := os) (X := fun w _ => laidMetH Tryz.prog Rows.routeOrderRow.laid w) false (laidWorld os) #[.agg #[.slice none 0 0, .slice none 0 0], .agg #[.string ByteArray.empty, .string ByteArray.empty], .agg #[.string ByteArray.empty, .int .i64 0, .string ByteArray.empty, .int .i64 0, .string ByteArray.empty, .string ByteArray.empty, .string ByteArray.empty, .bool false, .bool false], .agg #[.string ByteArray.empty, .string ByteArray.empty, .string ByteArray.empty, .bool false, .bool false, .bool false, .slice none 0 0, .bool false, .bool false, .bool false]] 8 rfl (by kernel_rfl) (by kernel_rfl) (by kernel_rfl) (by kernel_rfl) (by kernel_rfl) (laidWorld_met os _)) ?_
  intro W base args ds gs before hval0 hW _ _ hL hsh _
  have hval : ∀ (j : Nat) t v, Tryz.f4.params[j]? = some t → args[j]? = some v → Value.okWide Tryz.prog W .any base t v := hval0
  have hW' := hW
  obtain ⟨p, q, hA0, hV0, rfl, hfz, hnd⟩ := hW
  have hA : DataW.TrodAll enc Tryz.prog W 0 (fun _ => true) true Tryz.f4.params.toList args.toList ds p := hA0
  have hV : DataW.TrodVars enc Tryz.prog W (fun _ => true) [] gs q := hV0
  rw [Tryz.params4] at hA hval
  obtain ⟨v0, vs0, d0, ds0, p0, q0, hargs, rfl, rfl, h0, r0⟩ := trodAll_cons hA
  obtain ⟨v1, vs1, d1, ds1, p1, q1, rfl, rfl, rfl, h1, r1⟩ := trodAll_cons r0
  obtain ⟨v2, vs2, d2, ds2, p2, q2, rfl, rfl, rfl, h2, r2⟩ := trodAll_cons r1
  obtain ⟨v3, vs3, d3, ds3, p3, q3, rfl, rfl, rfl, h3, r3⟩ := trodAll_cons r2
  obtain ⟨rfl, rfl, rfl⟩ := trodAll_nil r3
  obtain rfl : args = #[v0, v1, v2, v3] := by cases args; simp_all
  obtain ⟨rfl, rfl⟩ : gs = [] ∧ q = [] := by
    cases gs with
    | nil => exact ⟨rfl, hV⟩
    | cons g r => exact absurd hV (by intro h; cases h)
  obtain ⟨cs, rfl, hsz, _⟩ : ∃ cs, v0 = .agg cs ∧ cs.size = Tryz.prog.cellsOf 55 ∧ Row.okWide Tryz.prog W .any base 55 cs := by
    have := hval 0 55 v0 rfl rfl
    simpa [Value.okWide, Tryz.underlying55] using this
  have k0 := h0
  have lt0 : ∀ x ∈ p0, x.block < W.heap.size := by obtain ⟨m, hm⟩ := k0; exact DataW.trod_lt m _ _ _ hm
  obtain ⟨l⟩ := cs
  obtain ⟨da0x, ds0x, dc0x, av0x, vs0x, vc0x, rfl, dm0x, vl0x, vv0x, vz0x⟩ : ∃ (da : Option Addr) (ds : List Dt) (dcap : Nat) (av : Option Addr) (vars : List SVar) (vcap : Nat), l = [.slice da ds.length dcap, .slice av vars.length vcap] ∧ DetsM W da ds ∧ vars.length ≤ maxLen ∧ VarsSl W av vars ∧ ∀ v ∈ vars, v.1.size ≤ maxLen ∧ v.2.length ≤ maxLen := by
    obtain ⟨fuel, hf⟩ := h0
    exact open_assoc hf
  obtain ⟨cs, rfl, hsz, _⟩ : ∃ cs, v1 = .agg cs ∧ cs.size = Tryz.prog.cellsOf 57 ∧ Row.okWide Tryz.prog W .any base 57 cs := by
    have := hval 1 57 v1 rfl rfl
    simpa [Value.okWide, Tryz.underlying57] using this
  have k1 := h1
  have lt1 : ∀ x ∈ p1, x.block < W.heap.size := by obtain ⟨m, hm⟩ := k1; exact DataW.trod_lt m _ _ _ hm
  obtain ⟨l⟩ := cs
  obtain ⟨p1x, rfl⟩ : ∃ p : ByteArray × ByteArray, l = [.string p.1, .string p.2] := by
    obtain ⟨fuel, hf⟩ := h1
    exact open_appid hf
  obtain ⟨cs, rfl, hsz, _⟩ : ∃ cs, v2 = .agg cs ∧ cs.size = Tryz.prog.cellsOf 59 ∧ Row.okWide Tryz.prog W .any base 59 cs := by
    have := hval 2 59 v2 rfl rfl
    simpa [Value.okWide, Tryz.underlying59] using this
  have k2 := h2
  have lt2 : ∀ x ∈ p2, x.block < W.heap.size := by obtain ⟨m, hm⟩ := k2; exact DataW.trod_lt m _ _ _ hm
  obtain ⟨l⟩ := cs
  obtain ⟨u2x, rfl, uz2x⟩ : ∃ u : Ur, l = (urA u).toList ∧ u.path.size ≤ maxLen ∧ u.query.size ≤ maxLen ∧ u.frag.size ≤ maxLen := by
    obtain ⟨fuel, hf⟩ := h2
    exact open_url hf
  obtain ⟨cs, rfl, hsz, _⟩ : ∃ cs, v3 = .agg cs ∧ cs.size = Tryz.prog.cellsOf 62 ∧ Row.okWide Tryz.prog W .any base 62 cs := by
    have := hval 3 62 v3 rfl rfl
    simpa [Value.okWide, Tryz.underlying62] using this
  have k3 := h3
  have lt3 : ∀ x ∈ p3, x.block < W.heap.size := by obtain ⟨m, hm⟩ := k3; exact DataW.trod_lt m _ _ _ hm
  obtain ⟨l⟩ := cs
  obtain ⟨r3x, rfl, rn3x, rs3x, rm3x⟩ : ∃ r : Ru, l = rlC r.r ∧ r.r.ilen = r.items.length ∧ ItemsSl W r.r.ia r.items ∧ RuM r := by
    obtain ⟨fuel, hf⟩ := h3
    exact open_rule hf
  clear hA0 hval0 hV0
  refine (walkRouteOrder da0x dc0x ds0x av0x vc0x vs0x p1x.1 p1x.2 u2x r3x W (handle_of_laid hL (by first | exact .head _ | exact .tail _ (.head _) | exact .tail _ (.tail _ (.head _)) | exact .tail _ (.tail _ (.tail _ (.head _))) | exact .tail _ (.tail _ (.tail _ (.tail _ (.head _)))))) (utf_of_laid hL) (class_of_laid hL) (maxAt_of_shape hsh) dm0x vv0x vl0x vz0x  uz2x rn3x rs3x rm3x).mono fun e W' ⟨he, bel⟩ => ?_
  subst he
  exact ⟨_, rfl, _, _, _, [], _, [], hW', trodAll_mk1 (shut_bool Tryz.underlying4 _), (trodAll_cons_mk (Below.trod laidOut (by kernel_rfl) (of_decide_eq_true (by kernel_rfl)) k0 bel lt0) (trodAll_cons_mk (Below.trod laidOut (by kernel_rfl) (of_decide_eq_true (by kernel_rfl)) k1 bel lt1) (trodAll_cons_mk (Below.trod laidOut (by kernel_rfl) (of_decide_eq_true (by kernel_rfl)) k2 bel lt2) (trodAll_cons_mk (Below.trod laidOut (by kernel_rfl) (of_decide_eq_true (by kernel_rfl)) k3 bel lt3) trodAll_mk0)))), rfl, bel.frame _, fun h => by cases h⟩

theorem said : Rows.RouteOrderSaid :=
  OpenClaim.holds_of_wide 4 Tryz.f4 rfl rfl rfl rfl rfl rfl rfl ⟨rfl, rfl, rfl, rfl, rfl⟩ rfl rfl rfl rfl rfl (by kernel_rfl) Tryz.func4 (by kernel_rfl)
    (of_decide_eq_true (by kernel_rfl)) (by unfold Func.isWrapper; first | (rw [if_pos (by decide +kernel)]; kernel_rfl) | (rw [if_neg (by decide +kernel)]; exact ⟨rfl, rfl⟩))
    (fun os started H enc _ => lifted os started H enc)

theorem plain (f : FuncId) (fn : Func) (hf : Tryz.pinned.checked.prog.funcNamed Rows.routeOrderRow.func = some f) (hfn : Tryz.pinned.checked.prog.funcs[f]? = some fn) :
    true = Tryz.pinned.checked.prog.looks [] ∧ ∀ (j : Nat) t, fn.params[j]? = some t → Tryz.pinned.checked.prog.wantsStandIn t = false := by
  obtain rfl : f = 4 := Option.some.inj ((show Tryz.prog.funcNamed Rows.routeOrderRow.func = some 4 by kernel_rfl).symm.trans hf) |>.symm
  obtain rfl : fn = Tryz.f4 := (Option.some.inj (Tryz.func4.symm.trans hfn)).symm
  refine ⟨by kernel_rfl, fun j t ht => ?_⟩
  rw [Tryz.params4] at ht
  have hm := Array.mem_of_getElem? ht
  simp at hm
  rcases hm with rfl | rfl | rfl | rfl
  · exact (show Tryz.prog.wantsStandIn 55 = false by kernel_rfl)
  · exact (show Tryz.prog.wantsStandIn 57 = false by kernel_rfl)
  · exact (show Tryz.prog.wantsStandIn 59 = false by kernel_rfl)
  · exact (show Tryz.prog.wantsStandIn 62 = false by kernel_rfl)

theorem proved : Rows.RouteOrderCardSaid :=
  Claim7.holds_tied_plain_at .later [] _ _ _ _ said (fun _ h => by cases h) (by kernel_rfl) (fun _ h => by cases h) routeOrder_row_tie rfl ⟨rfl, rfl⟩ (by kernel_rfl) rfl plain (by kernel_rfl)
end Go.Proofs.YtibhohpamnpkcaaGreatDoor.routeOrder
