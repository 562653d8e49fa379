/- The walk of SubstVars. -/
import Derived.Test.YtipenfeplampeaaDoorSubstVarsM14
import Derived.Test.YtipenfeplampeaaDoorSubstVarsM19
import Derived.Test.YtipenfeplampeaaDoorSubstVarsM5
import Derived.Shelf.Vars
import Derived.HandedShaped
import Derived.ChangeSame
import Derived.ChangeAt
import Derived.Test.YtipenfeplampeaaDoorSubstVarsM7
import Derived.SliceStrings
import Derived.Lib.LaidU8
import Derived.Lib.LaidU8T
import Derived.Deep.Strs
import Derived.OpenShut
import Derived.LaidLaws
import Derived.Stop.Joined
import Derived.Test.YtipenfeplampeaaDoorSubstVarsM3

namespace Go.Proofs.YtipenfeplampeaaDoor
open Go.RowKit

set_option maxHeartbeats 12800000 in
set_option maxRecDepth 100000 in
theorem vars_walk19 (name : ByteArray) (pa : Option Addr) (cap : Nat) (vals : List ByteArray) (w : World) (hH : Handle w) (hU : Utf8Laid w) (hL : ClassLaid w) (hM : MaxAt w) (hv : StrsV w (.slice pa vals.length cap) vals) (hz : name.size ≤ maxLen) (hvl : vals.length ≤ maxLen) :
    Calls Tryd.prog 3 #[.agg #[.string name, .slice pa vals.length cap]] w fun e w' => e = .returned (.bool true) ∧ Below w.heap.size w w' := by
  have hst1 : Below w.heap.size w (w.alloc (.cells #[.string name, .slice pa vals.length cap] 24)) := (Below.refl _ _).alloc (Nat.le_refl _) _
  have hq0 := heap_alloc_new w (.cells #[.string name, .slice pa vals.length cap] 24)
  have hl0 := lt_of_block hq0
  have hF : ∀ W, Below (w.alloc (.cells #[.string name, .slice pa vals.length cap] 24)).heap.size (w.alloc (.cells #[.string name, .slice pa vals.length cap] 24)) W → W.cell? ⟨w.heap.size, 0, none⟩ = some (.string name) ∧ W.cell? ⟨w.heap.size, 1, none⟩ = some (.slice pa vals.length cap) ∧ StrsV W (.slice pa vals.length cap) vals ∧ w.heap.size < W.heap.size ∧ Below w.heap.size w W ∧ Utf8Laid W ∧ ClassLaid W ∧ Handle W ∧ MaxAt W := fun W hW =>
    ⟨cell_of_row _ _ 0 _ _ _ ((hW.block _ hl0).trans hq0), cell_of_row _ _ 1 _ _ _ ((hW.block _ hl0).trans hq0), (hv.below hst1).below hW, Nat.lt_of_lt_of_le hl0 hW.size, Bt hst1 hW, hU.below (Bt hst1 hW), hL.below (Bt hst1 hW), hH.below (Bt hst1 hW), hM.below (Bt hst1 hW)⟩
  have HF := Lib.hid hF
  have hd0 := Below.refl (w.alloc (.cells #[.string name, .slice pa vals.length cap] 24)).heap.size (w.alloc (.cells #[.string name, .slice pa vals.length cap] 24))
  clear hF hq0 hl0 hv hU hL hH hM hst1
  unfold maxLen at hz hvl
  obtain ⟨_, _, _, _, _, hU1, hL1, _, hM1⟩ := HF.out _ hd0
  go_enter Tryd.func3, Tryd.ntmps3
  go_wp2_with fail
  generalize w.alloc (.cells #[.string name, .slice pa vals.length cap] 24) = w1 at *
  refine (speaks19 _ hU1 hL1 hM1).mono ?_
  rintro e w2 ⟨rfl, hb2⟩
  obtain ⟨f0, f1, _, hl2, hb02, _⟩ := HF.out _ hb2
  clear hd0 hU1 hL1 hM1
  by_cases h1 : 300 < vals.length
  · have e1 : (300 : Int) < (vals.length : Int) := by omega
    clear h1
    go_wp2_with fail
    go_ret
    exact ⟨rfl, hb02⟩
  have e1 : ¬ (300 : Int) < (vals.length : Int) := by omega
  by_cases h2 : 300 < name.size
  · have e2 : (300 : Int) < (name.size : Int) := by omega
    clear h1 h2
    go_wp2_with fail
    go_ret
    exact ⟨rfl, hb02⟩
  have e2 : ¬ (300 : Int) < (name.size : Int) := by omega
  go_wp2_with fail
  go_loopw [26] (fun x wr => ∃ i : Nat, i ≤ vals.length ∧ x = .int .i64 i ∧ (∀ v ∈ vals.take i, v.size ≤ 1200) ∧ w2 = wr) (fun x _ => vals.length - (intOf x).toNat)
  case atStart => exact ⟨0, Nat.zero_le _, rfl, fun v hv => by simp at hv, by trivial⟩
  case round =>
    obtain ⟨i, hil, rfl, hall, rfl⟩ := hrel
    obtain ⟨_, _, qs, _, _, _⟩ := HF.out _ hb2
    by_cases hlt : i < vals.length
    · have hiI : (i : Int) < (vals.length : Int) := by omega
      obtain ⟨v, hvi⟩ : ∃ v, vals[i]? = some v := ⟨_, List.getElem?_eq_getElem hlt⟩
      obtain ⟨pa', cap', e9, _, hcell⟩ := qs
      cases e9
      obtain ⟨b, off, hpa, hbw, hce⟩ := hcell i v hvi
      have htk : vals.take (i + 1) = vals.take i ++ [v] := by rw [List.take_add_one, hvi]; rfl
      clear hvi hcell
      subst hpa
      by_cases hvz : 1200 < v.size
      · have e3 : (1200 : Int) < (v.size : Int) := by omega
        clear hall htk hvz
        go_wp2_with fail
        go_ret
        exact ⟨rfl, hb02⟩
      · have e3 : ¬ (1200 : Int) < (v.size : Int) := by omega
        have HALL := Lib.hid (show ∀ x ∈ vals.take (i + 1), x.size ≤ 1200 from fun x hx => by
          rw [htk] at hx
          rcases List.mem_append.1 hx with h | h
          · exact hall x h
          · rw [List.mem_singleton] at h; rw [h]; omega)
        clear hall htk hvz
        go_wp2_with fail
        go_roundw
        case rel => exact ⟨i + 1, by omega, by go_num, HALL.out, by trivial⟩
        case measure => simp [intOf]; omega
    · obtain rfl : i = vals.length := by omega
      rw [List.take_length] at hall
      have hvz : ∀ v ∈ vals, v.size ≤ 16777216 := fun v hv => by have := hall v hv; omega
      go_wp2_with fail
      refine (ref19_CheckVar name pa cap vals _ qs (by omega) hvz (by omega)).mono ?_
      rintro e w3 ⟨hb3, rfl⟩
      have hb13 := Bt hb2 hb3
      obtain ⟨g0, g1, gs, hl3, hb03, hU3, hL3, hH3, hM3⟩ := HF.out _ hb13
      clear f0 f1
      go_wp2_with fail
      refine (sub_CheckVar name pa cap vals _ hU3 hL3 gs (by omega) hvz (by omega)).mono ?_
      rintro e w4 ⟨hb4, hpost⟩
      have hb14 := Bt hb13 hb4
      obtain ⟨k0, k1, _, hl4, hb04, hU4, hL4, hH4, hM4⟩ := HF.out _ hb14
      clear g0 g1 gs
      generalize cvP name vals = cc at *
      obtain ⟨c1, c2, c3⟩ := cc
      simp only at hpost ⊢
      have HV := Lib.hid hvz
      clear hall hvz
      rcases hpost with ⟨rfl, rfl, rfl⟩ | ⟨p1, rfl, v, rfl, hf⟩ | ⟨p1, p3, v, u, at_, rfl, hf, hu⟩
      · go_wp2_with fail
        refine (fault_Kind_nil _).mono ?_
        rintro e w5 ⟨rfl, hb5⟩
        have hb15 := Bt hb14 hb5
        obtain ⟨t0, _, _, _, _, hUt, hLt, _⟩ := HF.out _ hb15
        go_wp2_with fail
        refine (ref19_Class name _).mono ?_
        rintro e wA ⟨hcl, hbA⟩
        have hbA1 := Bt hb15 hbA
        obtain ⟨t1, _, _, _, hb0A, _, hLA, _⟩ := HF.out _ hbA1
        obtain ⟨cn, cz, rfl, hcz⟩ : ∃ (cn : ByteArray) (cz : Nat), e = .returned (.tuple #[.string cn, .int .i64 (cz : Int)]) ∧ ((ownC name).isSome = decide ((0 : Int) < (cz : Int))) := by
          rcases hcl with ⟨h1, rfl⟩ | ⟨am, sz, h1, h2, h3, rfl⟩
          · exact ⟨_, 0, rfl, by rw [h1]; rfl⟩
          · exact ⟨_, sz, rfl, by rw [h1, decide_eq_true (by omega)]; rfl⟩
        have HCZ := Lib.hid hcz
        clear hcl hcz t0
        go_wp2_with fail
        refine (sub_Own name _ hLA).mono ?_
        rintro e wB ⟨rfl, hbB⟩
        have hb0B := Bt hb0A hbB
        rw [HCZ.out]
        go_wp2_with fail
        go_ret
        exact ⟨ret_bool (by simp), hb0B⟩
      · have C1 := Lib.hid (fun W h h2 => fault_Kind_is v (c1 : Int) (c2 : Int) .nilIface W h h2)
        have C2 := Lib.hid (fun W h h2 => fault_At_is v (c1 : Int) (c2 : Int) .nilIface W h h2)
        have HFI := Lib.hid hf
        obtain ⟨z, rfl⟩ := hf.ne_nil
        clear hf
        go_wp2_with fail
        refine (C1.out _ hH4 HFI.out).mono ?_
        rintro e w5 ⟨rfl, hb5⟩
        have hb15 := Bt hb14 hb5
        have hf5 := Lib.hid (FaultIs.below HFI.out hb5)
        have hH5 := hH4.below hb5
        go_wp2_with fail
        refine (C2.out _ hH5 hf5.out).mono ?_
        rintro e w6 ⟨rfl, hb6⟩
        have hb16 := Bt hb15 hb6
        obtain ⟨t0, _, _, _, _, hUt, hLt, _⟩ := HF.out _ hb16
        go_wp2_with fail
        refine (ref19_Class name _).mono ?_
        rintro e wA ⟨hcl, hbA⟩
        have hbA1 := Bt hb16 hbA
        obtain ⟨t1, _, _, _, hb0A, _, hLA, _⟩ := HF.out _ hbA1
        obtain ⟨cn, cz, rfl, hcz⟩ : ∃ (cn : ByteArray) (cz : Nat), e = .returned (.tuple #[.string cn, .int .i64 (cz : Int)]) ∧ ((ownC name).isSome = decide ((0 : Int) < (cz : Int))) := by
          rcases hcl with ⟨h1, rfl⟩ | ⟨am, sz, h1, h2, h3, rfl⟩
          · exact ⟨_, 0, rfl, by rw [h1]; rfl⟩
          · exact ⟨_, sz, rfl, by rw [h1, decide_eq_true (by omega)]; rfl⟩
        have HCZ := Lib.hid hcz
        clear hcl hcz t0
        go_wp2_with fail
        refine (sub_Own name _ hLA).mono ?_
        rintro e wB ⟨rfl, hbB⟩
        have hb0B := Bt hb0A hbB
        rw [HCZ.out]
        go_wp2_with fail
        go_ret
        exact ⟨ret_bool (by simp), hb0B⟩
      · have C1 := Lib.hid (fun W h h2 => fault_Kind_is v (c1 : Int) (c2 : Int) u W h h2)
        have C2 := Lib.hid (fun W h h2 => fault_At_is v (c1 : Int) (c2 : Int) u W h h2)
        have C3 := Lib.hid (fun W h h2 => fault_Has2 v u (c1 : Int) (c2 : Int) (c3 : Int) at_ (c3 : Int) W h h2)
        have HFI := Lib.hid hf
        have HFU := Lib.hid hu
        have e7 : ((c3 : Int) != 0) = true := by simp; omega
        have e8 : ¬ (c3 : Int) = 0 := by omega
        obtain ⟨z, rfl⟩ := hf.ne_nil
        clear hf hu p3
        go_wp2_with fail
        refine (C1.out _ hH4 HFI.out).mono ?_
        rintro e w5 ⟨rfl, hb5⟩
        have hb15 := Bt hb14 hb5
        have hf5 := Lib.hid (FaultIs.below HFI.out hb5)
        have hu5 := Lib.hid (FaultIs.below HFU.out hb5)
        have hH5 := hH4.below hb5
        go_wp2_with fail
        refine (C2.out _ hH5 hf5.out).mono ?_
        rintro e w6 ⟨rfl, hb6⟩
        have hb16 := Bt hb15 hb6
        have hf6 := Lib.hid (FaultIs.below hf5.out hb6)
        have hu6 := Lib.hid (FaultIs.below hu5.out hb6)
        have hkind : (isKind (c3 : Int) (c1 : Int) || isKind (c3 : Int) (c3 : Int)) = true := by simp [isKind]
        go_wp2_with fail
        refine (C3.out _ hf6.out hu6.out).mono ?_
        rintro e w7 ⟨rfl, rfl⟩
        rw [hkind]
        obtain ⟨t0, _, _, _, _, hUt, hLt, _⟩ := HF.out _ hb16
        go_wp2_with fail
        refine (ref19_Class name _).mono ?_
        rintro e wA ⟨hcl, hbA⟩
        have hbA1 := Bt hb16 hbA
        obtain ⟨t1, _, _, _, hb0A, _, hLA, _⟩ := HF.out _ hbA1
        obtain ⟨cn, cz, rfl, hcz⟩ : ∃ (cn : ByteArray) (cz : Nat), e = .returned (.tuple #[.string cn, .int .i64 (cz : Int)]) ∧ ((ownC name).isSome = decide ((0 : Int) < (cz : Int))) := by
          rcases hcl with ⟨h1, rfl⟩ | ⟨am, sz, h1, h2, h3, rfl⟩
          · exact ⟨_, 0, rfl, by rw [h1]; rfl⟩
          · exact ⟨_, sz, rfl, by rw [h1, decide_eq_true (by omega)]; rfl⟩
        have HCZ := Lib.hid hcz
        clear hcl hcz t0
        go_wp2_with fail
        refine (sub_Own name _ hLA).mono ?_
        rintro e wB ⟨rfl, hbB⟩
        have hb0B := Bt hb0A hbB
        rw [HCZ.out]
        go_wp2_with fail
        go_ret
        exact ⟨ret_bool (by simp), hb0B⟩
end Go.Proofs.YtipenfeplampeaaDoor

/- Rows of numbers that came in: rows of bytes, rows of ints. -/
namespace Go.Proofs.YtipenfeplampeaaDoor
open Go.RowKit

/-- A slice of numbers that came in: nil, or a row of so many cells, each fitting its kind. -/
def IsRow (k : IntKind) (w : World) (a : Option Addr) (len cap : Nat) (zs : List Int) : Prop :=
  (a = none ∧ len = 0 ∧ cap = 0 ∧ zs = []) ∨
  ∃ x, a = some x ∧ len ≤ cap ∧ cap ≤ maxLen ∧ zs.length = cap ∧ (∀ i, i < zs.length → w.cell? (x.add i) = some (.int k (zs.getD i 0))) ∧ ∀ n ∈ zs, (Lit.int k n).wf = true

theorem spot_none {w : World} {x : Addr} {v : Value} (h : w.cell? (x.add 0) = some v) : x = ⟨x.block, x.off, none⟩ ∧ x.block < w.heap.size := by
  have hb := World.block_lt_of_cell? w _ h
  cases x with
  | mk b o s =>
    cases s with
    | none => exact ⟨rfl, hb⟩
    | some q =>
      simp only [World.cell?, Addr.add] at h
      split at h <;> simp at h

theorem IsRow.bytes {w : World} {a : Option Addr} {len cap : Nat} {zs : List Int} (h : IsRow .u8 w a len cap zs) : ∃ s : ByteArray, s.size = len ∧ BytesSl w (.slice a len cap) s := by
  rcases h with ⟨rfl, rfl, rfl, rfl⟩ | ⟨x, rfl, hl, hm, hz, hcell, hwz⟩
  · exact ⟨ByteArray.empty, rfl, .inl ⟨rfl, none, 0, rfl⟩⟩
  · have hsz : (⟨((zs.take len).map fun n => UInt8.ofNat n.toNat).toArray⟩ : ByteArray).size = len := by
      show (((zs.take len).map fun n => UInt8.ofNat n.toNat).toArray).size = _
      simp; omega
    refine ⟨⟨((zs.take len).map fun n => UInt8.ofNat n.toNat).toArray⟩, hsz, ?_⟩
    by_cases h0 : len = 0
    · exact .inl ⟨hsz.trans h0, some x, cap, by rw [h0]⟩
    · obtain ⟨hx, hb⟩ := spot_none (hcell 0 (by omega))
      refine .inr ⟨x.block, x.off, cap, by rw [hsz, ← hx], by rw [hsz]; exact hl, hm, hb, fun j hj => ?_⟩
      rw [hsz] at hj
      have hc := hcell j (by omega)
      have hadd : x.add j = ⟨x.block, x.off + j, none⟩ := by cases x; cases hx; simp [Addr.add]
      rw [hadd] at hc
      rw [hc]
      have hjz : j < zs.length := by omega
      have hw := hwz zs[j] (List.getElem_mem _)
      simp [Lit.wf, IntKind.min, IntKind.max, IntKind.signed, IntKind.bits] at hw
      simp only [byteAt, List.getD, List.getElem?_map, List.getElem?_take, if_pos hj, List.getElem?_eq_getElem hjz, Option.map_some, Option.getD_some]
      rw [UInt8.toNat_ofNat_of_lt' (by have : zs[j].toNat < 256 := by omega
                                       exact this), Int.toNat_of_nonneg hw.1]

/-- A slice of ints that reads as these numbers. -/
def IntsSl (w : World) (v : Value) (l : List Int) : Prop :=
  (l = [] ∧ ∃ a cap, v = .slice a 0 cap) ∨ ∃ b off cap, v = .slice (some ⟨b, off, none⟩) l.length cap ∧ l.length ≤ cap ∧ cap ≤ maxLen ∧ b < w.heap.size ∧ ∀ j, j < l.length → w.cell? ⟨b, off + j, none⟩ = some (.int .i64 (l.getD j 0))
theorem IntsSl.below {w w' : World} {v : Value} {l : List Int} (h : IntsSl w v l) (hb : Below w.heap.size w w') : IntsSl w' v l := by
  rcases h with h | ⟨b, off, cap, e, h1, h2, h3, h4⟩
  · exact .inl h
  · exact .inr ⟨b, off, cap, e, h1, h2, Nat.lt_of_lt_of_le h3 hb.size, fun j hj => (hb.cell (p := ⟨b, off + j, none⟩) h3).trans (h4 j hj)⟩
theorem IsRow.ints {w : World} {a : Option Addr} {len cap : Nat} {zs : List Int} (h : IsRow .i64 w a len cap zs) : ∃ l : List Int, l.length = len ∧ IntsSl w (.slice a len cap) l ∧ ∀ n ∈ l, (Lit.int .i64 n).wf = true := by
  rcases h with ⟨rfl, rfl, rfl, rfl⟩ | ⟨x, rfl, hl, hm, hz, hcell, hwz⟩
  · exact ⟨[], rfl, .inl ⟨rfl, none, 0, rfl⟩, fun _ h => by cases h⟩
  · have hlen : (zs.take len).length = len := by simp; omega
    refine ⟨zs.take len, hlen, ?_, fun n hn => hwz n (List.mem_of_mem_take hn)⟩
    by_cases h0 : len = 0
    · exact .inl ⟨by rw [h0]; rfl, some x, cap, by rw [h0]⟩
    · obtain ⟨hx, hb⟩ := spot_none (hcell 0 (by omega))
      refine .inr ⟨x.block, x.off, cap, by rw [hlen, ← hx], by rw [hlen]; exact hl, hm, hb, fun j hj => ?_⟩
      rw [hlen] at hj
      have hc := hcell j (by omega)
      have hadd : x.add j = ⟨x.block, x.off + j, none⟩ := by cases x; cases hx; simp [Addr.add]
      rw [hadd] at hc
      rw [hc]
      simp [List.getD, hj]
end Go.Proofs.YtipenfeplampeaaDoor

/- A call's contract that keeps the world's shape; the shape gives the library's variable. -/
namespace Go.Proofs.YtipenfeplampeaaDoor
open Go.ChangeShapes Go.WideShapes Go.ChangeAt Go.RowKit

section
variable {H : Type} {enc : TypeId × Value → H}
theorem handed_and_shaped {a : Assume} {C : Checked} {os : Os} {f : FuncId} {fn : Func} {s : ChangeSpec} {conds : List PathCond} {apart fresh handsOn again : Bool} {X : World → Array Value → Prop}
    (hX : ∀ (w w' : World) (args : Array Value), w.heap = w'.heap → X w args → X w' args)
    (own : ownKnob C.prog.godebug = none) (started : os.Started) (noInit : C.prog.inits.idxOf? f = none) (hfn : C.prog.funcs[f]? = some fn)
    (witness : ∃ (w : World) (tape : Tape) (i : Input), w.os = os ∧ (w.forCall tape i).Shaped C.prog ∧ i.vars = [] ∧ Input.okWide C.prog (w.forCall tape i) .any w.heap.size f i ∧
      ((s.pre enc C.prog fn conds apart (w.forCall tape i).memory i.args ∧ X (w.forCall tape i).memory i.args) ∧ sizedMet enc C.prog fn (OpenSpec.ofChange s) apart (w.forCall tape i).memory i.args) ∧ a.holds C.prog (lone (Frame.enter C.prog f i.args .normal) [] (w.forCall tape i)))
    (contract : ∀ (W : World) (base : Nat) (args : Array Value) (ds gs : List (DataW H)) (before : List MemPlace),
      (∀ (j : Nat) t v, fn.params[j]? = some t → args[j]? = some v → Value.okWide C.prog W .any base t v) →
      DataW.Whole enc C.prog fn.params.toList s.vars apart W args.toList ds gs before →
      conds.all (PathCond.test C.prog ⟨fn.params.toList, ds, s.plain.varTypes C.prog, gs⟩) = true →
      (DataW.weightsEach C.prog (fn.params.toList ++ s.plain.varTypes C.prog) (ds ++ gs)).all (· ≤ reachBytes) = true → X W args → W.ShapedOpen C.prog →
      a.holds C.prog (lone (Frame.enter C.prog f args .normal) [] W) →
      Calls C.prog f args W fun e W' => ∃ v, e = .returned v ∧ s.post enc C.prog fn apart fresh handsOn again W args v W') :
    ReturnsInHanded a C os f .any (fun w args => (s.pre enc C.prog fn conds apart w args ∧ X w args) ∧ sizedMet enc C.prog fn (OpenSpec.ofChange s) apart w args) (s.post enc C.prog fn apart fresh handsOn again) := by
  refine returnsInHanded_of_calls own started noInit witness ?_
  intro w tape i _ hsh _ hok hpre hholds
  obtain ⟨_, _, _, fn', hfn', _, _, _, _, hval⟩ := hok
  have e : fn' = fn := Option.some.inj (hfn'.symm.trans hfn)
  subst e
  obtain ⟨⟨⟨ds, gs, before, hw, hc⟩, hx⟩, hz⟩ := hpre
  have hw' := DataW.Whole.of_heap (w' := w.forCall tape i) (by rfl) hw
  refine (contract (w.forCall tape i) w.heap.size i.args ds gs before hval hw' hc (hz.weights hw) (hX _ _ _ (by rfl) hx) hsh hholds).mono fun e W' ⟨v, he, hp⟩ => ?_
  subst he
  exact ChangeSpec.post_blind hp
end
theorem maxAt_of_shape {W : World} (h : W.ShapedOpen Tryd.prog) : MaxAt W :=
  cell_of_shapedOpen_int (t := 3) (zero := #[.int .i64 0]) h (of_decide_eq_true (by kernel_rfl)) (by kernel_rfl) (by kernel_rfl) (by kernel_rfl) (by kernel_rfl) (by kernel_rfl)
end Go.Proofs.YtipenfeplampeaaDoor

/- What subst's cards ask: the classes, as the program's text lays them; strings that came in. -/
namespace Go.Proofs.YtipenfeplampeaaDoor
open Go.ChangeShapes Go.WideShapes Go.RowKit

set_option maxRecDepth 100000 in
theorem open_strsV {H : Type} {enc : TypeId × Value → H} {W : World} {base : Nat} {spare : Nat → Bool} {held : Bool} {fuel : Nat} {cs : List Value} {x : DataW H × List MemPlace} (h : DataW.trod enc Tryd.prog W base spare held fuel 22 cs = some x) :
    ∃ (a : Option Addr) (l : List ByteArray) (cap : Nat), cs = [.slice a l.length cap] ∧ l.length ≤ maxLen ∧ StrsV W (.slice a l.length cap) l := by
  rcases open_strings Tryd.underlying22 Tryd.underlying9 (by kernel_rfl) h with ⟨rfl, _⟩ | ⟨a, len, cap, ss, rfl, _, hl, hm, hz, _, hcell, _⟩
  · exact ⟨none, [], 0, rfl, Nat.zero_le _, ⟨none, 0, rfl, Nat.le_refl _, fun i s h => by simp at h⟩⟩
  have hsl : len ≤ ss.length := by rw [hz]; split <;> omega
  have hlen : (ss.take len).length = len := by rw [List.length_take]; omega
  refine ⟨some a, ss.take len, cap, by rw [hlen], by rw [hlen]; omega, some a, cap, rfl, by rw [hlen]; exact hl, fun i s hs => ?_⟩
  rw [List.getElem?_take] at hs
  split at hs
  · next hi =>
    have c0 := hcell 0 (by omega)
    obtain ⟨hspot, hblk⟩ := spot_none c0
    obtain ⟨ab, ao, asp⟩ := a
    obtain rfl : asp = none := by injection hspot
    refine ⟨ab, ao, rfl, hblk, ?_⟩
    have := hcell i (by omega)
    rw [Addr.add_lit] at this
    rw [this, List.getD, hs]; rfl
  · cases hs
theorem cells_strS : Tryd.prog.cellsOf 9 = 1 := by kernel_rfl
theorem cells_strsS : Tryd.prog.cellsOf 22 = 1 := by kernel_rfl
theorem cells_varS : Tryd.prog.cellsOf 24 = 2 := by kernel_rfl
set_option maxRecDepth 100000 in
theorem open_var {H : Type} {enc : TypeId × Value → H} {W : World} {base : Nat} {spare : Nat → Bool} {held : Bool} {fuel : Nat} {cs : List Value} {x : DataW H × List MemPlace} (h : DataW.trod enc Tryd.prog W base spare held fuel 24 cs = some x) :
    ∃ (a : ByteArray) (pa : Option Addr) (c : Nat) (m : List ByteArray), cs = [.string a, .slice pa m.length c] ∧ a.size ≤ maxLen ∧ m.length ≤ maxLen ∧ StrsV W (.slice pa m.length c) m := by
  obtain ⟨xs, k, _, _, hl, hlen, hf⟩ := DataW.trod_struct Tryd.underlying24 h
  rw [cells_varS] at hl
  match xs, hlen, cs, hl with
  | [y0, y1], _, [v0, v1], _ =>
    have g0 := hf 0 _ rfl
    have g1 := hf 1 _ rfl
    simp [cells_strS, cells_strsS] at g0 g1
    obtain ⟨a, e0, _, z0⟩ := DataW.trod_string Tryd.underlying9 g0
    simp at e0
    subst e0
    obtain ⟨pa, m, c, e2, h1, h2⟩ := open_strsV g1
    simp at e2
    subst e2
    exact ⟨a, pa, c, m, rfl, z0, h1, h2⟩
set_option maxRecDepth 100000 in
theorem class_of_reads {w : World} (h : Lib.VarReads Tryd.prog w "waybill/subst.classes" Rows.laid_waybill_subst_classes) : ClassLaid w := by
  obtain ⟨g, t, cs, fuel, p, hg, hty, hvar, hd⟩ := h
  obtain rfl := Option.some.inj ((show Tryd.prog.globalNamed "waybill/subst.classes" = some 1 by kernel_rfl).symm.trans hg)
  obtain rfl := Option.some.inj ((show (Tryd.prog.globals[1]?).map (·.type) = some 96 by kernel_rfl).symm.trans hty)
  have e : (Rows.laid_waybill_subst_classes : DataW Unit) = .agg (clsT.map fun c => .agg [.lit (.string c.1.data.toList), .lit (.string c.2.1.data.toList), .lit (.int .i64 (c.2.2 : Nat))]) := by kernel_rfl
  rw [e] at hd
  have hc : Tryd.prog.cellsOf 61 = 3 := by kernel_rfl
  have h1 : Tryd.prog.cellsOf 3 = 1 := by kernel_rfl
  have hs1 : Tryd.prog.cellsOf 9 = 1 := by kernel_rfl
  have each : ∀ i x, clsT[i]? = some x → w.cell? ⟨1, i * 3, none⟩ = some (.string x.1) ∧ w.cell? ⟨1, i * 3 + 1, none⟩ = some (.string x.2.1) ∧ w.cell? ⟨1, i * 3 + 2, none⟩ = some (.int .i64 (x.2.2 : Nat)) := by
    intro i x hx
    have hi : i < 8 := (List.getElem?_eq_some_iff.1 hx).1
    obtain ⟨fuel', d, q, hdi, he⟩ := Lib.array_elem Tryd.underlying96 hd i hi
    rw [List.getElem?_map, hx] at hdi
    simp only [Option.map_some, Option.some.injEq] at hdi
    subst hdi
    rw [hc] at he
    obtain ⟨y0, y1, y2, n, hy, _, g0, g1, g2⟩ := Go.Deep.trod_struct3 Tryd.underlying61 he
    simp only [hs1, h1] at g0 g1 g2
    obtain ⟨s0, e0, rfl, _⟩ := DataW.trod_string Tryd.underlying9 g0
    obtain ⟨s1, e1, rfl, _⟩ := DataW.trod_string Tryd.underlying9 g1
    obtain ⟨z2, e2, rfl, _⟩ := DataW.trod_int Tryd.underlying3 g2
    simp only [Prod.mk.injEq, DataW.agg.injEq, List.cons.injEq, DataW.lit.injEq, Lit.string.injEq, Lit.int.injEq, and_true, true_and] at hy
    obtain ⟨⟨k0, k1, k2⟩, _⟩ := hy
    have r0 : s0 = x.1 := by
      apply ByteArray.ext; apply Array.ext'; exact k0.symm
    have r1 : s1 = x.2.1 := by
      apply ByteArray.ext; apply Array.ext'; exact k1.symm
    subst r0 r1
    have c0 := congrArg (·[0]?) e0
    have c1 := congrArg (·[0]?) e1
    have c2 := congrArg (·[0]?) e2
    simp only [List.getElem?_take, List.getElem?_drop] at c0 c1 c2
    refine ⟨?_, ?_, ?_⟩
    · rw [World.var?_cell hg hvar (i * 3), ← Array.getElem?_toList]
      simpa using c0
    · rw [World.var?_cell hg hvar (i * 3 + 1), ← Array.getElem?_toList]
      simpa using c1
    · rw [World.var?_cell hg hvar (i * 3 + 2), ← Array.getElem?_toList]
      rw [k2]
      simpa using c2
  refine ⟨World.block_lt_of_cell? w _ (each 0 _ rfl).1, fun i x hx => ?_⟩
  simp only [Nat.zero_add]
  exact each i x hx
end Go.Proofs.YtipenfeplampeaaDoor

/- The walk of SubstVars, as the card asks it. -/
namespace Go.Proofs.YtipenfeplampeaaDoor
open Go.RowKit

theorem walkSubstVars (name : ByteArray) (pa : Option Addr) (cap : Nat) (vals : List ByteArray) (w : World) (hH : Handle w) (hU : Utf8Laid w) (hL : ClassLaid w) (hM : MaxAt w) (hz : name.size ≤ maxLen) (hvl : vals.length ≤ maxLen) (hv : StrsV w (.slice pa vals.length cap) vals) :
    Calls Tryd.prog 3 #[.agg #[.string name, .slice pa vals.length cap]] w fun e w' => e = .returned (.bool true) ∧ Below w.heap.size w w' := vars_walk19 name pa cap vals w hH hU hL hM hv hz hvl
end Go.Proofs.YtipenfeplampeaaDoor
