/- The kind and the place of an error, as the statements read them. -/
import Derived.Test.YtkgifenidmbdkaaGreatDoorSubstMatchesM23
import Derived.Test.YtkgifenidmbdkaaGreatDoorSubstMatchesM3
import Derived.Test.YtkgifenidmbdkaaGreatDoorSubstMatchesM16
import Derived.Test.YtkgifenidmbdkaaGreatDoorSubstMatchesM22
import Derived.Test.YtkgifenidmbdkaaGreatDoorSubstMatchesM17
import Derived.Test.YtkgifenidmbdkaaGreatDoorSubstMatchesM7
import Derived.Shelf.Vars
import Derived.HandedShaped
import Derived.ChangeSame
import Derived.ChangeAt
import Derived.Test.YtkgifenidmbdkaaGreatDoorSubstMatchesM8
import Derived.Test.YtkgifenidmbdkaaGreatDoorSubstMatchesM9
import Derived.SliceStrings
import Derived.Lib.LaidU8
import Derived.Lib.LaidU8T
import Derived.Deep.Strs
import Derived.OpenShut
import Derived.LaidLaws
import Derived.Stop.Joined

namespace Go.Proofs.YtkgifenidmbdkaaGreatDoor
open Go.RowKit

theorem as_world (b : Nat) (w w1 w' : World) (h1 : w1 = w.alloc (.cells #[.pointer none] 98))
    (hw : w' = ((((w1.alloc (.cells #[.pointer (some ⟨w.heap.size, 0, none⟩)] 100)).alloc (.cells #[.pointer (some ⟨5, 100, none⟩), .pointer (some ⟨w1.heap.size, 0, none⟩), .int .u64 150] 156)).alloc (.cells #[.pointer (some ⟨5, 100, none⟩), .pointer (some ⟨w1.heap.size, 0, none⟩), .int .u64 150] 156)).alloc (.cells #[.pointer (some ⟨b, 0, none⟩)] 98)).setCell ⟨w.heap.size, 0, none⟩ (.pointer (some ⟨b, 0, none⟩))) :
    Below w.heap.size w w' ∧ w'.cell? ⟨w.heap.size, 0, none⟩ = some (.pointer (some ⟨b, 0, none⟩)) := by
  have hs : w1.heap.size = w.heap.size + 1 := by rw [h1]; simp
  have hb0 : Below w.heap.size w w1 := by rw [h1]; exact (Below.refl _ _).alloc (Nat.le_refl _) _
  have hc : w1.cell? ⟨w.heap.size, 0, none⟩ = some (.pointer none) := by rw [h1]; simp
  subst hw
  refine ⟨((((hb0.alloc (by omega) _).alloc (by simp; omega) _).alloc (by simp; omega) _).alloc (by simp; omega) _).setCell (Nat.le_refl _) _, ?_⟩
  refine World.cell?_setCell_same (u := .pointer none) _ _ _ ?_
  rw [World.cell?_alloc_lt _ _ _ (by simp; omega), World.cell?_alloc_lt _ _ _ (by simp; omega), World.cell?_alloc_lt _ _ _ (by simp; omega), World.cell?_alloc_lt _ _ _ (by simp; omega), hc]

set_option maxHeartbeats 1600000 in
set_option maxRecDepth 100000 in
theorem fault_Kind_is (v : Value) (k i : Int) (inner : Value) (w : World) (hg : Handle w) (hv : FaultIs w v k i inner) :
    Calls Tryz.prog 10 #[v] w fun e w' => e = .returned (.int .i64 k) ∧ Below w.heap.size w w' := by
  obtain ⟨b, rfl, hblk⟩ := hv
  have hlt := lt_of_block hblk
  have hg1 : Handle (w.alloc (.cells #[.pointer none] 98)) := hg.below ((Below.refl _ _).alloc (Nat.le_refl _) _)
  have ht1 : (w.alloc (.cells #[.pointer none] 98)).cell? ⟨w.heap.size, 0, none⟩ = some (.pointer none) := by simp
  have hf1 : (w.alloc (.cells #[.pointer none] 98)).frozen? ⟨w.heap.size, 0, none⟩ = false := by simp
  go_enter Tryz.func10, Tryz.ntmps10
  go_wp2_with fail
  refine (as_hit ⟨b, 0, none⟩ ⟨w.heap.size, 0, none⟩ (.pointer none) _ hg1 ht1 hf1).mono ?_
  rintro e w' ⟨rfl, hw⟩
  obtain ⟨hb, hc0⟩ := as_world b w _ w' rfl hw
  have hcb : w'.cell? ⟨b, 0, none⟩ = some (.int .i64 k) := by
    rw [hb.cell hlt, cell_of_row w b 0 _ _ _ hblk]; rfl
  clear hw hg1 ht1 hf1
  go_wp2_with fail
  go_ret
  exact ⟨rfl, hb⟩

set_option maxHeartbeats 1600000 in
set_option maxRecDepth 100000 in
theorem fault_At_is (v : Value) (k i : Int) (inner : Value) (w : World) (hg : Handle w) (hv : FaultIs w v k i inner) :
    Calls Tryz.prog 11 #[v] w fun e w' => e = .returned (.int .i64 i) ∧ Below w.heap.size w w' := by
  obtain ⟨b, rfl, hblk⟩ := hv
  have hlt := lt_of_block hblk
  have hg1 : Handle (w.alloc (.cells #[.pointer none] 98)) := hg.below ((Below.refl _ _).alloc (Nat.le_refl _) _)
  have ht1 : (w.alloc (.cells #[.pointer none] 98)).cell? ⟨w.heap.size, 0, none⟩ = some (.pointer none) := by simp
  have hf1 : (w.alloc (.cells #[.pointer none] 98)).frozen? ⟨w.heap.size, 0, none⟩ = false := by simp
  go_enter Tryz.func11, Tryz.ntmps11
  go_wp2_with fail
  refine (as_hit ⟨b, 0, none⟩ ⟨w.heap.size, 0, none⟩ (.pointer none) _ hg1 ht1 hf1).mono ?_
  rintro e w' ⟨rfl, hw⟩
  obtain ⟨hb, hc0⟩ := as_world b w _ w' rfl hw
  have hcb : w'.cell? ⟨b, 1, none⟩ = some (.int .i64 i) := by
    rw [hb.cell hlt, cell_of_row w b 1 _ _ _ hblk]; rfl
  clear hw hg1 ht1 hf1
  go_wp2_with fail
  go_ret
  exact ⟨rfl, hb⟩

theorem fault_Kind_nil (w : World) : Calls Tryz.prog 10 #[.nilIface] w fun e w' => e = .returned (.int .i64 0) ∧ Below w.heap.size w w' := by
  go_enter Tryz.func10, Tryz.ntmps10
  go_wp2_with fail
  go_ret
  exact ⟨rfl, Below.refl _ _⟩

theorem fault_Kind (v : Value) (k i : Nat) (w : World) (hg : Handle w) (hv : IsErr w v k i) :
    Calls Tryz.prog 10 #[v] w fun e w' => e = .returned (.int .i64 (k : Int)) ∧ Below w.heap.size w w' := by
  rcases hv with ⟨rfl, rfl⟩ | ⟨_, n, hv⟩
  · exact fault_Kind_nil w
  · exact fault_Kind_is v k i n w hg hv
theorem fault_At (v : Value) (k i : Nat) (w : World) (hg : Handle w) (hv : IsErr w v k i) (hk : k ≠ 0) :
    Calls Tryz.prog 11 #[v] w fun e w' => e = .returned (.int .i64 (i : Int)) ∧ Below w.heap.size w w' := by
  rcases hv with ⟨rfl, rfl⟩ | ⟨_, n, hv⟩
  · exact absurd rfl hk
  · exact fault_At_is v k i n w hg hv
end Go.Proofs.YtkgifenidmbdkaaGreatDoor

/- The walk of SubstMatches. -/
namespace Go.Proofs.YtkgifenidmbdkaaGreatDoor
open Go.RowKit

set_option maxHeartbeats 12800000 in
set_option maxRecDepth 100000 in
theorem walkSubstMatches (p : ByteArray) (av : Option Addr) (vars : List SVar) (vcap : Nat) (s : ByteArray) (fold : Bool) (w : World) (hH : Handle w) (hU : Utf8Laid w) (hL : ClassLaid w) (hM : MaxAt w) (hp : p.size ≤ maxLen) (hvl : vars.length ≤ maxLen) (hv : VarsSl w av vars) (hvs : ∀ v ∈ vars, v.1.size ≤ maxLen ∧ v.2.length ≤ maxLen) (hs : s.size ≤ maxLen) :
    Calls Tryz.prog 3 #[.string p, .slice av vars.length vcap, .string s, .bool fold] w fun e w' => e = .returned (.bool true) ∧ Below w.heap.size w w' := by
  have HF := Lib.hid (fun W (hW : Below w.heap.size w W) => (⟨hH.below hW, hU.below hW, hL.below hW, hM.below hW, hv.below hW⟩ : Handle W ∧ Utf8Laid W ∧ ClassLaid W ∧ MaxAt W ∧ VarsSl W av vars))
  have CG := Lib.hid (fun W (h : VarsSl W av vars) => sub_great av vcap vars W h hvl hvs)
  clear hH hv hvs
  unfold maxLen at hp hvl hs
  go_enter Tryz.func3, Tryz.ntmps3
  go_wp2_with fail
  refine (speaks19 _ hU hL hM).mono ?_
  rintro e w1 ⟨rfl, hb1⟩
  clear hU hL hM
  by_cases h1 : 40 < p.size
  · have e1 : (40 : Int) < (p.size : Int) := by omega
    clear h1
    go_wp2_with fail
    go_ret
    exact ⟨rfl, hb1⟩
  have e1 : ¬ (40 : Int) < (p.size : Int) := by omega
  by_cases h2 : 24 < s.size
  · have e2 : (24 : Int) < (s.size : Int) := by omega
    clear h1 h2
    go_wp2_with fail
    go_ret
    exact ⟨rfl, hb1⟩
  have e2 : ¬ (24 : Int) < (s.size : Int) := by omega
  obtain ⟨_, _, _, _, hv1⟩ := HF.out _ hb1
  go_wp2_with fail
  refine (CG.out _ hv1).mono ?_
  rintro e w2 ⟨hg, hb2⟩
  have hb02 := Bt hb1 hb2
  clear CG
  rcases hg with rfl | ⟨rfl, hv5, hsm⟩
  · go_wp2_with fail
    go_ret
    exact ⟨rfl, hb02⟩
  have hvs2 : ∀ v ∈ vars, v.2.length ≤ 16777216 ∧ ∀ s ∈ v.2, s.size ≤ 16777216 := fun v hv => ⟨by have := (hsm v hv).1; omega, fun s hs => by have := (hsm v hv).2.2 s hs; omega⟩
  have HVS := Lib.hid hvs2
  obtain ⟨hH2, hU2, hL2, hM2, hv2⟩ := HF.out _ hb02
  clear hsm hvs2 hv1 hb1 hb2
  go_wp2_with fail
  refine (ref19_Check p av vcap vars _ hv2 (by omega) (by omega)).mono ?_
  rintro e w3 ⟨rfl, hb3⟩
  have hb03 := Bt hb02 hb3
  obtain ⟨hH3, hU3, hL3, hM3, hv3⟩ := HF.out _ hb03
  clear hH2 hU2 hL2 hM2 hv2 hb3 hb02
  have hNS := names_all p
  go_wp2_with fail
  refine (sub_Check p av vcap vars _ hU3 hL3 hM3 hv3 (by omega) (by omega)).mono ?_
  rintro e w4 ⟨hb4, hpost⟩
  have hb04 := Bt hb03 hb4
  obtain ⟨hH4, hU4, hL4, hM4, hv4⟩ := HF.out _ hb04
  clear hH3 hU3 hL3 hM3 hv3 hb03
  generalize chkV p vars = cc at *
  obtain ⟨k0, k1⟩ := cc
  simp only at hpost ⊢
  have CN := Lib.hid (fun W h => sub_Names p W h (by omega))
  have CR := Lib.hid (fun W => ref19_Names p W (by omega))
  have CM := Lib.hid (fun W h1 h2 h3 h4 => sub_Match p s av vcap vars fold W h1 h2 h3 h4 (by omega) (by omega) (by omega) HVS.out)
  have CX := Lib.hid (fun W h => ref19_Match p s av vcap vars fold W h (by omega) (by omega) (by omega) HVS.out)
  have hln : (namesL (pcs p).1).length ≤ 80 := by
    have h3 := namesL_len (pcs p).1
    have h4 := pcs_len p (p.size + 1) 0 (Nat.zero_le _)
    rw [show (pcF p (p.size + 1) 0).1 = (pcs p).1 from rfl] at h4
    omega
  rw [hNS] at CN hln
  generalize namesR p (p.size + 1) 0 = L at *
  have CS := Lib.hid (fun a1 a2 c1 c2 W h1 h2 => ref_SameR a1 a2 c1 c2 L L W h1 h2 (by omega) (by omega))
  rw [decide_eq_true (rfl : L = L)] at CS
  clear hNS HVS
  rcases hpost with ⟨_, hkk, rfl⟩ | ⟨_, hk0, v, rfl, hf⟩
  · cases hkk
    go_wp2_with fail
    refine (fault_Kind_nil _).mono ?_
    rintro e w5 ⟨rfl, hb5⟩
    have hb05 := Bt hb04 hb5
    obtain ⟨_, _, _, hM5, _⟩ := HF.out _ hb05
    clear hH4 hU4 hL4 hM4 hv4 hb04 hb5 hb4
    go_wp2_with fail
    refine (CN.out _ hM5).mono ?_
    rintro e w6 ⟨a6, c6, rfl, hr6, hb6⟩
    have hb06 := Bt hb05 hb6
    clear hM5 hb6 hb05
    go_wp2_with fail
    refine (CR.out _).mono ?_
    rintro e w7 ⟨a7, c7, rfl, hr7, hb7⟩
    have hr67 := hr6.below hb7
    have hb07 := Bt hb06 hb7
    clear hr6 hb7 hb06
    go_wp2_with fail
    refine (CS.out a6 a7 c6 c7 _ hr67 hr7).mono ?_
    rintro e w8 ⟨rfl, n8, rfl⟩
    have hb08 := below_drewN hb07 n8
    generalize w7.drewN n8 = w8 at *
    obtain ⟨_, hU8, hL8, hM8, hv8⟩ := HF.out _ hb08
    clear hr67 hr7 hb07
    go_wp2_with fail
    refine (CM.out _ hU8 hL8 hM8 hv8).mono ?_
    rintro e w9 ⟨rfl, hb9⟩
    have hb09 := Bt hb08 hb9
    obtain ⟨_, _, _, _, hv9⟩ := HF.out _ hb09
    clear hU8 hL8 hM8 hv8 hb08 hb9
    go_wp2_with fail
    refine (CX.out _ hv9).mono ?_
    rintro e w10 ⟨rfl, hb10⟩
    have hb010 := Bt hb09 hb10
    clear hb09 hb10 hv9
    go_wp2_with fail
    go_ret
    exact ⟨ret_bool (by simp), hb010⟩
  · have C1 := Lib.hid (fun W h h2 => fault_Kind_is v (k0 : Int) (k1 : Int) .nilIface W h h2)
    have C2 := Lib.hid (fun W h h2 => fault_At_is v (k0 : Int) (k1 : Int) .nilIface W h h2)
    have HFI := Lib.hid hf
    obtain ⟨z, rfl⟩ := hf.ne_nil
    clear hf hk0
    go_wp2_with fail
    refine (C1.out _ hH4 HFI.out).mono ?_
    rintro e w5 ⟨rfl, hb5⟩
    have hf5 := Lib.hid (FaultIs.below HFI.out hb5)
    have hH5 := hH4.below hb5
    have hb05 := Bt hb04 hb5
    clear hH4 hU4 hL4 hM4 hv4 hb04 hb5 hb4
    go_wp2_with fail
    refine (C2.out _ hH5 hf5.out).mono ?_
    rintro e w55 ⟨rfl, hb55⟩
    have hb055 := Bt hb05 hb55
    obtain ⟨_, _, _, hM5, _⟩ := HF.out _ hb055
    clear hH5 hf5 hb05 hb55
    go_wp2_with fail
    refine (CN.out _ hM5).mono ?_
    rintro e w6 ⟨a6, c6, rfl, hr6, hb6⟩
    have hb06 := Bt hb055 hb6
    clear hM5 hb6 hb055
    go_wp2_with fail
    refine (CR.out _).mono ?_
    rintro e w7 ⟨a7, c7, rfl, hr7, hb7⟩
    have hr67 := hr6.below hb7
    have hb07 := Bt hb06 hb7
    clear hr6 hb7 hb06
    go_wp2_with fail
    refine (CS.out a6 a7 c6 c7 _ hr67 hr7).mono ?_
    rintro e w8 ⟨rfl, n8, rfl⟩
    have hb08 := below_drewN hb07 n8
    generalize w7.drewN n8 = w8 at *
    obtain ⟨_, hU8, hL8, hM8, hv8⟩ := HF.out _ hb08
    clear hr67 hr7 hb07
    go_wp2_with fail
    refine (CM.out _ hU8 hL8 hM8 hv8).mono ?_
    rintro e w9 ⟨rfl, hb9⟩
    have hb09 := Bt hb08 hb9
    obtain ⟨_, _, _, _, hv9⟩ := HF.out _ hb09
    clear hU8 hL8 hM8 hv8 hb08 hb9
    go_wp2_with fail
    refine (CX.out _ hv9).mono ?_
    rintro e w10 ⟨rfl, hb10⟩
    have hb010 := Bt hb09 hb10
    clear hb09 hb10 hv9
    go_wp2_with fail
    go_ret
    exact ⟨ret_bool (by simp), hb010⟩
end Go.Proofs.YtkgifenidmbdkaaGreatDoor

/- A call's contract that keeps the world's shape; the shape gives the library's variable. -/
namespace Go.Proofs.YtkgifenidmbdkaaGreatDoor
open Go.ChangeShapes Go.WideShapes Go.ChangeAt Go.RowKit

section
variable {H : Type} {enc : TypeId × Value → H}
theorem handed_and_shaped {a : Assume} {C : Checked} {os : Os} {f : FuncId} {fn : Func} {s : ChangeSpec} {conds : List PathCond} {apart fresh handsOn again : Bool} {X : World → Array Value → Prop}
    (hX : ∀ (w w' : World) (args : Array Value), w.heap = w'.heap → X w args → X w' args)
    (own : ownKnob C.prog.godebug = none) (started : os.Started) (noInit : C.prog.inits.idxOf? f = none) (hfn : C.prog.funcs[f]? = some fn)
    (witness : ∃ (w : World) (tape : Tape) (i : Input), w.os = os ∧ (w.forCall tape i).Shaped C.prog ∧ i.vars = [] ∧ Input.okWide C.prog (w.forCall tape i) .any w.heap.size f i ∧
      ((s.pre enc C.prog fn conds apart (w.forCall tape i).memory i.args ∧ X (w.forCall tape i).memory i.args) ∧ sizedMet enc C.prog fn (OpenSpec.ofChange s) apart (w.forCall tape i).memory i.args) ∧ a.holds C.prog (lone (Frame.enter C.prog f i.args .normal) [] (w.forCall tape i)))
    (contract : ∀ (W : World) (base : Nat) (args : Array Value) (ds gs : List (DataW H)) (before : List MemPlace),
      (∀ (j : Nat) t v, fn.params[j]? = some t → args[j]? = some v → Value.okWide C.prog W .any base t v) →
      DataW.Whole enc C.prog fn.params.toList s.vars apart W args.toList ds gs before →
      conds.all (PathCond.test C.prog ⟨fn.params.toList, ds, s.plain.varTypes C.prog, gs⟩) = true →
      (DataW.weightsEach C.prog (fn.params.toList ++ s.plain.varTypes C.prog) (ds ++ gs)).all (· ≤ reachBytes) = true → X W args → W.ShapedOpen C.prog →
      a.holds C.prog (lone (Frame.enter C.prog f args .normal) [] W) →
      Calls C.prog f args W fun e W' => ∃ v, e = .returned v ∧ s.post enc C.prog fn apart fresh handsOn again W args v W') :
    ReturnsInHanded a C os f .any (fun w args => (s.pre enc C.prog fn conds apart w args ∧ X w args) ∧ sizedMet enc C.prog fn (OpenSpec.ofChange s) apart w args) (s.post enc C.prog fn apart fresh handsOn again) := by
  refine returnsInHanded_of_calls own started noInit witness ?_
  intro w tape i _ hsh _ hok hpre hholds
  obtain ⟨_, _, _, fn', hfn', _, _, _, _, hval⟩ := hok
  have e : fn' = fn := Option.some.inj (hfn'.symm.trans hfn)
  subst e
  obtain ⟨⟨⟨ds, gs, before, hw, hc⟩, hx⟩, hz⟩ := hpre
  have hw' := DataW.Whole.of_heap (w' := w.forCall tape i) (by rfl) hw
  refine (contract (w.forCall tape i) w.heap.size i.args ds gs before hval hw' hc (hz.weights hw) (hX _ _ _ (by rfl) hx) hsh hholds).mono fun e W' ⟨v, he, hp⟩ => ?_
  subst he
  exact ChangeSpec.post_blind hp
end
theorem maxAt_of_shape {W : World} (h : W.ShapedOpen Tryz.prog) : MaxAt W :=
  cell_of_shapedOpen_int (t := 3) (zero := #[.int .i64 0]) h (of_decide_eq_true (by kernel_rfl)) (by kernel_rfl) (by kernel_rfl) (by kernel_rfl) (by kernel_rfl) (by kernel_rfl)
end Go.Proofs.YtkgifenidmbdkaaGreatDoor

/- What subst's cards ask: the classes, as the program's text lays them; strings that came in. -/
namespace Go.Proofs.YtkgifenidmbdkaaGreatDoor
open Go.ChangeShapes Go.WideShapes Go.RowKit

set_option maxRecDepth 100000 in
theorem open_strsV {H : Type} {enc : TypeId × Value → H} {W : World} {base : Nat} {spare : Nat → Bool} {held : Bool} {fuel : Nat} {cs : List Value} {x : DataW H × List MemPlace} (h : DataW.trod enc Tryz.prog W base spare held fuel 32 cs = some x) :
    ∃ (a : Option Addr) (l : List ByteArray) (cap : Nat), cs = [.slice a l.length cap] ∧ l.length ≤ maxLen ∧ StrsV W (.slice a l.length cap) l := by
  rcases open_strings Tryz.underlying32 Tryz.underlying9 (by kernel_rfl) h with ⟨rfl, _⟩ | ⟨a, len, cap, ss, rfl, _, hl, hm, hz, _, hcell, _⟩
  · exact ⟨none, [], 0, rfl, Nat.zero_le _, ⟨none, 0, rfl, Nat.le_refl _, fun i s h => by simp at h⟩⟩
  have hsl : len ≤ ss.length := by rw [hz]; split <;> omega
  have hlen : (ss.take len).length = len := by rw [List.length_take]; omega
  refine ⟨some a, ss.take len, cap, by rw [hlen], by rw [hlen]; omega, some a, cap, rfl, by rw [hlen]; exact hl, fun i s hs => ?_⟩
  rw [List.getElem?_take] at hs
  split at hs
  · next hi =>
    have c0 := hcell 0 (by omega)
    obtain ⟨hspot, hblk⟩ := spot_none c0
    obtain ⟨ab, ao, asp⟩ := a
    obtain rfl : asp = none := by injection hspot
    refine ⟨ab, ao, rfl, hblk, ?_⟩
    have := hcell i (by omega)
    rw [Addr.add_lit] at this
    rw [this, List.getD, hs]; rfl
  · cases hs
theorem cells_strS : Tryz.prog.cellsOf 9 = 1 := by kernel_rfl
theorem cells_strsS : Tryz.prog.cellsOf 32 = 1 := by kernel_rfl
theorem cells_varS : Tryz.prog.cellsOf 82 = 2 := by kernel_rfl
set_option maxRecDepth 100000 in
theorem open_var {H : Type} {enc : TypeId × Value → H} {W : World} {base : Nat} {spare : Nat → Bool} {held : Bool} {fuel : Nat} {cs : List Value} {x : DataW H × List MemPlace} (h : DataW.trod enc Tryz.prog W base spare held fuel 82 cs = some x) :
    ∃ (a : ByteArray) (pa : Option Addr) (c : Nat) (m : List ByteArray), cs = [.string a, .slice pa m.length c] ∧ a.size ≤ maxLen ∧ m.length ≤ maxLen ∧ StrsV W (.slice pa m.length c) m := by
  obtain ⟨xs, k, _, _, hl, hlen, hf⟩ := DataW.trod_struct Tryz.underlying82 h
  rw [cells_varS] at hl
  match xs, hlen, cs, hl with
  | [y0, y1], _, [v0, v1], _ =>
    have g0 := hf 0 _ rfl
    have g1 := hf 1 _ rfl
    simp [cells_strS, cells_strsS] at g0 g1
    obtain ⟨a, e0, _, z0⟩ := DataW.trod_string Tryz.underlying9 g0
    simp at e0
    subst e0
    obtain ⟨pa, m, c, e2, h1, h2⟩ := open_strsV g1
    simp at e2
    subst e2
    exact ⟨a, pa, c, m, rfl, z0, h1, h2⟩
set_option maxRecDepth 100000 in
theorem class_of_reads {w : World} (h : Lib.VarReads Tryz.prog w "waybill/subst.classes" Rows.laid_waybill_subst_classes) : ClassLaid w := by
  obtain ⟨g, t, cs, fuel, p, hg, hty, hvar, hd⟩ := h
  obtain rfl := Option.some.inj ((show Tryz.prog.globalNamed "waybill/subst.classes" = some 1 by kernel_rfl).symm.trans hg)
  obtain rfl := Option.some.inj ((show (Tryz.prog.globals[1]?).map (·.type) = some 199 by kernel_rfl).symm.trans hty)
  have e : (Rows.laid_waybill_subst_classes : DataW Unit) = .agg (clsT.map fun c => .agg [.lit (.string c.1.data.toList), .lit (.string c.2.1.data.toList), .lit (.int .i64 (c.2.2 : Nat))]) := by kernel_rfl
  rw [e] at hd
  have hc : Tryz.prog.cellsOf 148 = 3 := by kernel_rfl
  have h1 : Tryz.prog.cellsOf 3 = 1 := by kernel_rfl
  have hs1 : Tryz.prog.cellsOf 9 = 1 := by kernel_rfl
  have each : ∀ i x, clsT[i]? = some x → w.cell? ⟨1, i * 3, none⟩ = some (.string x.1) ∧ w.cell? ⟨1, i * 3 + 1, none⟩ = some (.string x.2.1) ∧ w.cell? ⟨1, i * 3 + 2, none⟩ = some (.int .i64 (x.2.2 : Nat)) := by
    intro i x hx
    have hi : i < 8 := (List.getElem?_eq_some_iff.1 hx).1
    obtain ⟨fuel', d, q, hdi, he⟩ := Lib.array_elem Tryz.underlying199 hd i hi
    rw [List.getElem?_map, hx] at hdi
    simp only [Option.map_some, Option.some.injEq] at hdi
    subst hdi
    rw [hc] at he
    obtain ⟨y0, y1, y2, n, hy, _, g0, g1, g2⟩ := Go.Deep.trod_struct3 Tryz.underlying148 he
    simp only [hs1, h1] at g0 g1 g2
    obtain ⟨s0, e0, rfl, _⟩ := DataW.trod_string Tryz.underlying9 g0
    obtain ⟨s1, e1, rfl, _⟩ := DataW.trod_string Tryz.underlying9 g1
    obtain ⟨z2, e2, rfl, _⟩ := DataW.trod_int Tryz.underlying3 g2
    simp only [Prod.mk.injEq, DataW.agg.injEq, List.cons.injEq, DataW.lit.injEq, Lit.string.injEq, Lit.int.injEq, and_true, true_and] at hy
    obtain ⟨⟨k0, k1, k2⟩, _⟩ := hy
    have r0 : s0 = x.1 := by
      apply ByteArray.ext; apply Array.ext'; exact k0.symm
    have r1 : s1 = x.2.1 := by
      apply ByteArray.ext; apply Array.ext'; exact k1.symm
    subst r0 r1
    have c0 := congrArg (·[0]?) e0
    have c1 := congrArg (·[0]?) e1
    have c2 := congrArg (·[0]?) e2
    simp only [List.getElem?_take, List.getElem?_drop] at c0 c1 c2
    refine ⟨?_, ?_, ?_⟩
    · rw [World.var?_cell hg hvar (i * 3), ← Array.getElem?_toList]
      simpa using c0
    · rw [World.var?_cell hg hvar (i * 3 + 1), ← Array.getElem?_toList]
      simpa using c1
    · rw [World.var?_cell hg hvar (i * 3 + 2), ← Array.getElem?_toList]
      rw [k2]
      simpa using c2
  refine ⟨World.block_lt_of_cell? w _ (each 0 _ rfl).1, fun i x hx => ?_⟩
  simp only [Nat.zero_add]
  exact each i x hx
end Go.Proofs.YtkgifenidmbdkaaGreatDoor

/- A slice of variables that came in. -/
namespace Go.Proofs.YtkgifenidmbdkaaGreatDoor
open Go.RowKit Go.ChangeShapes Go.WideShapes

set_option maxRecDepth 100000 in
theorem open_vars {H : Type} {enc : TypeId × Value → H} {W : World} {base : Nat} {spare : Nat → Bool} {held : Bool} {fuel : Nat} {cs : List Value} {x : DataW H × List MemPlace} (h : DataW.trod enc Tryz.prog W base spare held fuel 22 cs = some x) :
    ∃ (a : Option Addr) (l : List SVar) (cap : Nat), cs = [.slice a l.length cap] ∧ l.length ≤ maxLen ∧ VarsSl W a l ∧ ∀ v ∈ l, v.1.size ≤ maxLen ∧ v.2.length ≤ maxLen := by
  rcases Go.Deep.open_slice Tryz.underlying22 h with ⟨rfl, _⟩ | ⟨a, len, cap, m, n, D, Pl, rfl, hb, hl, hm, hmm, _, hx⟩
  · exact ⟨none, [], 0, rfl, Nat.zero_le _, ⟨[], fun i v h => by simp at h, rfl, fun i v h => by simp at h⟩, fun v h => by cases h⟩
  have hlm : len ≤ m := by rw [hmm]; split <;> omega
  by_cases hlen0 : len = 0
  · subst hlen0
    exact ⟨some a, [], cap, rfl, Nat.zero_le _, ⟨[], fun i v h => by simp at h, rfl, fun i v h => by simp at h⟩, fun v h => by cases h⟩
  obtain ⟨hspot, hblk⟩ : a = ⟨a.block, a.off, none⟩ ∧ a.block < W.heap.size := by
    obtain ⟨cs', h1, h2⟩ := hx 0 (by omega)
    rw [cells_varS] at h1
    obtain ⟨_, hlen, hcell⟩ := World.cells?_some h1
    have c0 := hcell 0 (by omega)
    rw [Go.Deep.add_add, Nat.zero_mul, Nat.add_zero] at c0
    match cs', hlen with
    | [v0, v1], _ => exact spot_none (c0.trans rfl)
  obtain ⟨ab, ao, asp⟩ := a
  obtain rfl : asp = none := by injection hspot
  dsimp only at hblk
  have each : ∀ i, i < len → ∃ p : SVar × Value, (W.cell? ⟨ab, ao + i * 2, none⟩ = some (.string p.1.1) ∧ W.cell? ⟨ab, ao + i * 2 + 1, none⟩ = some p.2 ∧ StrsV W p.2 p.1.2) ∧ p.1.1.size ≤ maxLen ∧ p.1.2.length ≤ maxLen := by
    intro i hi
    obtain ⟨cs', h1, h2⟩ := hx i (by omega)
    rw [cells_varS] at h1
    obtain ⟨_, hlen, hcell⟩ := World.cells?_some h1
    obtain ⟨s, pa, c, mm, rfl, z0, z1, hs⟩ := open_var h2
    have c0 := hcell 0 (by omega)
    have c1 := hcell 1 (by omega)
    rw [Go.Deep.add_add] at c0 c1
    rw [Addr.add_lit] at c0 c1
    refine ⟨((s, mm), .slice pa mm.length c), ⟨?_, ?_, hs⟩, z0, z1⟩
    · simpa using c0
    · simpa [Nat.add_assoc] using c1
  haveI : Inhabited (SVar × Value) := ⟨((ByteArray.empty, []), .bool false)⟩
  obtain ⟨f, hf⟩ := Go.Deep.choose_lt each
  have hlen : ((List.range len).map fun i => (f i).1).length = len := by simp
  refine ⟨some ⟨ab, ao, none⟩, (List.range len).map fun i => (f i).1, cap, by rw [hlen], by rw [hlen]; omega, ⟨(List.range len).map fun i => ((f i).1.1, (f i).2), fun i p hp => ?_, by simp, fun i p hp => ?_⟩, fun p hp => ?_⟩
  · have hi : i < len := by have := (List.getElem?_eq_some_iff.1 hp).1; simpa using this
    have : p = ((f i).1.1, (f i).2) := by simpa [hi] using hp.symm
    subst this
    obtain ⟨⟨h1, h2, _⟩, _⟩ := hf i hi
    exact ⟨ab, ao, rfl, hblk, h1, h2⟩
  · have hi : i < len := by have := (List.getElem?_eq_some_iff.1 hp).1; simpa using this
    have : p = (f i).1 := by simpa [hi] using hp.symm
    subst this
    exact ⟨(f i).2, by simp [hi], (hf i hi).1.2.2⟩
  · obtain ⟨i, hi, rfl⟩ := List.mem_map.1 hp
    exact (hf i (by simpa using hi)).2
end Go.Proofs.YtkgifenidmbdkaaGreatDoor
