/- The reference's Check of chapter 19. -/
import Derived.Test.YtkgifenidmbdkaaGreatDoorSubstMatchesM22
import Derived.Test.YtkgifenidmbdkaaGreatDoorSubstMatchesM21
import Derived.Test.YtkgifenidmbdkaaGreatDoorSubstMatchesM19
import Derived.Test.YtkgifenidmbdkaaGreatDoorSubstMatchesM1
import Derived.LaidEql
import Derived.Stop.Asserts
import Derived.RowKitTokens

namespace Go.Proofs.YtkgifenidmbdkaaGreatDoor
open Go.RowKit

set_option maxHeartbeats 6400000 in
set_option maxRecDepth 100000 in
theorem ref19_Check (p : ByteArray) (av : Option Addr) (vcap : Nat) (vars : List SVar) (w : World) (hv : VarsSl w av vars) (hp : p.size ≤ 16777216) (hvl : vars.length ≤ 16777216) :
    Calls Tryz.prog 8 #[.string p, .slice av vars.length vcap] w fun e w' => e = .returned (.tuple #[.int .i64 ((chkV p vars).1 : Int), .int .i64 ((chkV p vars).2 : Int)]) ∧ Below w.heap.size w w' := by
  have hno : (chkP p).1 ≠ 0 → chkV p vars = chkP p := fun h => by
    unfold chkV
    rw [if_pos]
    cases ho : okP p
    · rfl
    · exact absurd ((chkP_ok p).2 ho) h
  have hyes : (chkP p).1 = 0 → chkV p vars = ckR p vars (p.size + 1) 0 := fun h => chkV_ref vars ((chkP_ok p).1 h)
  have HNO := Lib.hid hno
  have HYES := Lib.hid hyes
  clear hno hyes
  go_enter Tryz.func8, Tryz.ntmps8
  go_wp2_with fail
  refine (ref_Check p _ hp).mono ?_
  rintro e w1 ⟨hb1, rfl⟩
  by_cases h0 : (chkP p).1 = 0
  · have e0 : (((chkP p).1 : Int) != 0) = false := by rw [h0]; rfl
    have HC := Lib.hid (HYES.out h0)
    clear HNO HYES h0
    generalize (chkP p).1 = c1 at *
    generalize (chkP p).2 = c2 at *
    go_wp2_with fail
    go_loopw [8] (fun x wr => ∃ (k f : Nat), x = .int .i64 k ∧ k ≤ p.size ∧ ckR p vars f k = ckR p vars (p.size + 1) 0 ∧ p.size - k < f ∧ Below w.heap.size w wr) (fun x _ => p.size - (intOf x).toNat)
    case atStart => exact ⟨0, p.size + 1, rfl, Nat.zero_le _, rfl, by omega, hb1⟩
    case round =>
      obtain ⟨k, f, rfl, hkl, hck, hf, hbr⟩ := hrel
      obtain ⟨f, rfl⟩ : ∃ f', f = f' + 1 := ⟨f - 1, by omega⟩
      rw [ckR] at hck
      have hN := ref19_next p k wr hp hkl
      rcases nextP_range hkl with ⟨h1, h2⟩ | ⟨i, q, h1, h2, h3, h4⟩
      · rcases h2 with h2 | ⟨i, h2, h3, h4⟩
        · rw [h2, if_pos (by decide)] at hck
          rw [h1, h2] at hN
          have HX := Lib.hid (HC.out.trans hck.symm)
          have HN := Lib.hid hN
          clear hck hN h1 h2
          go_wp2_with fail
          refine HN.out.mono ?_
          rintro e w2 ⟨rfl, rfl⟩
          go_wp2_with fail
          go_ret2
          exact ⟨by rw [HX.out]; rfl, hbr⟩
        · rw [h2, if_neg (by omega), h1, if_pos (by decide), Int.toNat_natCast] at hck
          rw [h1, h2] at hN
          have HX := Lib.hid (HC.out.trans hck.symm)
          have HN := Lib.hid hN
          have y5 : ¬ (i : Int) < 0 := by omega
          clear hck hN h1 h2
          go_wp2_with fail
          refine HN.out.mono ?_
          rintro e w2 ⟨rfl, rfl⟩
          go_wp2_with fail
          go_ret2
          exact ⟨by rw [HX.out]; rfl, hbr⟩
      · rw [h1] at hck hN
        simp only at hck hN
        rw [if_neg (by omega), if_neg (by omega), Int.toNat_natCast, Int.toNat_natCast] at hck
        have HK := Lib.hid hck
        have HN := Lib.hid hN
        have z1 : IntKind.i64.wrap ((i : Int) + 2) = (i : Int) + 2 := IntWalk.i64_in _ (by omega)
        have z2 : IntKind.i64.wrap ((q : Int) + 1) = (q : Int) + 1 := IntWalk.i64_in _ (by omega)
        have y1 : (0 : Int) ≤ (i : Int) + 2 := by omega
        have y2 : (i : Int) + 2 ≤ (q : Int) := by omega
        have y3 : (q : Int) ≤ (p.size : Int) := by omega
        have y4 : ((i : Int) + 2).toNat = i + 2 := by omega
        have y5 : ¬ (i : Int) < 0 := by omega
        have y6 : ¬ (q : Int) < 0 := by omega
        clear hck hN h1
        go_wp2_with fail
        refine HN.out.mono ?_
        rintro e w2 ⟨rfl, rfl⟩
        go_wp2_with fail
        refine (ref19_Class (p.extract (i + 2) q) _).mono ?_
        rintro e w3 ⟨hcl, hb3⟩
        obtain ⟨cn, cz, rfl, hcz⟩ : ∃ (cn : ByteArray) (cz : Nat), e = .returned (.tuple #[.string cn, .int .i64 (cz : Int)]) ∧ ((ownC (p.extract (i + 2) q)).isNone = ((cz : Int) == 0)) := by
          rcases hcl with ⟨h1, rfl⟩ | ⟨am, sz, h1, h2, h3, rfl⟩
          · exact ⟨_, 0, rfl, by rw [h1]; rfl⟩
          · exact ⟨_, sz, rfl, by rw [h1]; symm; rw [show (some (am, sz)).isNone = false from rfl, beq_eq_false_iff_ne]; omega⟩
        have hbr3 := Bt hbr hb3
        have HCZ := Lib.hid hcz
        clear hcl hcz hb3
        go_wp2_with fail
        refine (ref19_Find av vcap vars (p.extract (i + 2) q) _ (hv.below hbr3) hvl).mono ?_
        rintro e w4 ⟨⟨u, rfl, _⟩, rfl⟩
        cases hfs : (findV vars (p.extract (i + 2) q)).isSome with
        | true =>
          have HR := Lib.hid (show ckR p vars f (q + 1) = ckR p vars (p.size + 1) 0 by
            have := HK.out
            rw [if_neg (by rintro ⟨_, h⟩; cases ho : findV vars (p.extract (i + 2) q) <;> rw [ho] at h hfs <;> simp at h hfs)] at this
            exact this)
          clear hfs HK HCZ HN
          by_cases hz0 : cz = 0
          · have e1 : ((cz : Int) == 0) = true := by rw [hz0]; rfl
            clear hz0
            go_wp2_with fail
            go_roundw
            case rel => exact ⟨q + 1, f, by go_num, by omega, HR.out, by omega, hbr3⟩
            case measure => simp [intOf]; omega
          · have e1 : ((cz : Int) == 0) = false := by rw [beq_eq_false_iff_ne]; omega
            clear hz0
            go_wp2_with fail
            go_roundw
            case rel => exact ⟨q + 1, f, by go_num, by omega, HR.out, by omega, hbr3⟩
            case measure => simp [intOf]; omega
        | false =>
          by_cases hz0 : cz = 0
          · have e1 : ((cz : Int) == 0) = true := by rw [hz0]; rfl
            have HR := Lib.hid (show chkV p vars = (30, i) by
              have := HK.out
              rw [if_pos ⟨by rw [HCZ.out, e1], by cases ho : findV vars (p.extract (i + 2) q) <;> rw [ho] at hfs <;> simp at hfs ⊢⟩] at this
              rw [HC.out, ← this])
            clear hfs HK HCZ HN hz0
            go_wp2_with fail
            go_ret2
            exact ⟨by rw [HR.out]; rfl, hbr3⟩
          · have e1 : ((cz : Int) == 0) = false := by rw [beq_eq_false_iff_ne]; omega
            have HR := Lib.hid (show ckR p vars f (q + 1) = ckR p vars (p.size + 1) 0 by
              have := HK.out
              rw [if_neg (by rintro ⟨h, _⟩; rw [HCZ.out, e1] at h; cases h)] at this
              exact this)
            clear hfs HK HCZ HN hz0
            go_wp2_with fail
            go_roundw
            case rel => exact ⟨q + 1, f, by go_num, by omega, HR.out, by omega, hbr3⟩
            case measure => simp [intOf]; omega
  · have e0 : (((chkP p).1 : Int) != 0) = true := by rw [bne_iff_ne]; omega
    have HC := Lib.hid (HNO.out h0)
    clear HNO HYES h0
    generalize chkP p = cc at *
    go_wp2_with fail
    go_ret2
    exact ⟨by rw [HC.out]; rfl, hb1⟩
end Go.Proofs.YtkgifenidmbdkaaGreatDoor

/- The reference's Match of chapter 19. -/
namespace Go.Proofs.YtkgifenidmbdkaaGreatDoor
open Go.RowKit

theorem okV_chk {p : ByteArray} {vars : List SVar} : (chkV p vars).1 = 0 ↔ okV p vars = true := by
  unfold chkV okV
  cases hp : okP p with
  | false =>
    rw [if_pos rfl]
    constructor
    · intro h
      have := (chkP_ok p).1 h
      rw [hp] at this
      cases this
    · intro h; simp at h
  | true =>
    rw [if_neg (by decide)]
    cases missV vars (pcs p).1 with
    | some k => simp
    | none =>
      by_cases h : (pcs p).2 < 0
      · simp [h]
      · simp [h]
set_option maxHeartbeats 6400000 in
set_option maxRecDepth 100000 in
theorem ref19_Match (p s : ByteArray) (av : Option Addr) (vcap : Nat) (vars : List SVar) (fold : Bool) (w : World) (hv : VarsSl w av vars) (hp : p.size ≤ 16777216) (hs : s.size ≤ 4194304) (hvl : vars.length ≤ 16777216) (hvs : ∀ v ∈ vars, v.2.length ≤ 16777216 ∧ ∀ s ∈ v.2, s.size ≤ 16777216) :
    Calls Tryz.prog 16 #[.string p, .slice av vars.length vcap, .string s, .bool fold] w fun e w' => e = .returned (.bool (subM p vars s fold)) ∧ Below w.heap.size w w' := by
  have HVS := Lib.hid hvs
  have hchk := ref19_Check p av vcap vars w hv hp hvl
  have hok := okV_chk (p := p) (vars := vars)
  clear hvs
  go_enter Tryz.func16, Tryz.ntmps16
  go_wp2_with fail
  refine hchk.mono ?_
  rintro e w1 ⟨rfl, hb1⟩
  generalize hcv : chkV p vars = cv at *
  obtain ⟨k0, k1⟩ := cv
  simp only at hok ⊢
  go_wp2_with ((with_reducible refine wpList_bytes_sl rfl 9 106 5 _ rfl s rfl Tryz.underlying9 Tryz.underlying106 Tryz.underlying5 (by omega) ?_); intro v2 w2 hv2 hb2)
  have hb12 := Bt hb1 hb2
  refine (ref_Chars v2 s _ (by omega) hv2).mono ?_
  rintro e w3 ⟨hb3, hcs⟩
  have hb13 := Bt hb12 hb3
  have hv3 := hv.below hb13
  clear hb1 hb2 hb3 hb12 hcv hchk hv
  rcases hcs with ⟨hnn, v3, rfl, hown⟩ | ⟨i, hi, a3, rfl⟩
  · obtain ⟨a, c, rfl, hc1, hc2, hsl⟩ := chars_sl hown rfl
    by_cases hk0 : k0 = 0
    · subst hk0
      have hokv := hok.1 rfl
      have hrm := rest_match (fold := fold) (vars := vars) (p := p) hnn hokv
      have hlen := chrs_len s
      have hrc := right_chrs s
      have hg : (pcF p (p.size + 1) 0).2 < 0 := by
        unfold okV at hokv
        rw [Bool.and_eq_true, Bool.and_eq_true, decide_eq_true_eq] at hokv
        exact hokv.2.2
      clear hok hokv hown hnn
      generalize (chrs s).1 = cs at *
      have HRM := Lib.hid hrm
      have HRC := Lib.hid hrc
      have hmk := make_bools cs.length (by omega)
      have hfz0 := (World.rowIs_made w3 (.bool false) (cs.length + 1) 4).frozen cs.length
      have hc0 := (World.rowIs_made w3 (.bool false) (cs.length + 1) 4).cell (i := cs.length) (by omega)
      have hset := (World.rowIs_made w3 (.bool false) (cs.length + 1) 4).set cs.length (.bool true)
      have hends : (w3.alloc (.cells ((madeCells #[.bool false] (cs.length + 1)).setIfInBounds cs.length (.bool true)) 4)).rowIs w3.heap.size 4 (cs.length + 1) (boolsF fun i => decide (i = cs.length)) := by
        have hsz : ((madeCells #[Value.bool false] (cs.length + 1)).setIfInBounds cs.length (.bool true)).size = cs.length + 1 := by simp [size_madeCells]
        have h := World.rowIs_alloc w3 ((madeCells #[.bool false] (cs.length + 1)).setIfInBounds cs.length (.bool true)) 4 (boolsF fun i => decide (i = cs.length)) (fun i hi => by
          rw [hsz] at hi
          rw [Array.getElem?_setIfInBounds]
          show _ = some (Value.bool (decide (i = cs.length)))
          by_cases h0 : cs.length = i
          · subst h0; simp [size_madeCells]
          · rw [if_neg h0, decide_eq_false (fun e => h0 e.symm)]
            simp [madeCells, hi, Nat.mod_one])
        rw [hsz] at h
        exact h
      have hal : Below w3.heap.size w3 (w3.alloc (.cells ((madeCells #[.bool false] (cs.length + 1)).setIfInBounds cs.length (.bool true)) 4)) := (Below.refl _ _).alloc (Nat.le_refl _) _
      have hb14 := Bt hb13 hal
      have CR := Lib.hid (ref19_rest p av a vcap c w3.heap.size (cs.length + 1) vars cs _ fold hp hrc (by omega) hc1 hc2 hvl HVS.out (p.size + 1) 0 _ (hv3.below hal) (hsl.below hal) hends (Nat.zero_le _) (by omega) hg)
      clear hset hends hal hv3 hsl hrc hrm hg hb13
      unfold maxLen at hc2
      go_wp2_with fail
      refine CR.out.mono ?_
      rintro e w5 ⟨gn, rfl, hr5, hgn, hb5⟩
      have c5 := hr5.cell (i := 0) (by omega)
      have hl5 := hr5.lt
      have HX := Lib.hid HRM.out
      rw [show boolsF (restF fold cs vars p (fun i => decide (i = cs.length)) (p.size + 1) 0) 0 = .bool (restF fold cs vars p (fun i => decide (i = cs.length)) (p.size + 1) 0 0) from rfl] at c5
      generalize restF fold cs vars p (fun i => decide (i = cs.length)) (p.size + 1) 0 0 = r at *
      have hb15 := Bt hb14 hb5
      clear hb14 hb5 CR hr5 hmk hfz0 hc0
      go_wp2_with fail
      go_ret
      exact ⟨ret_bool HX.out.symm, hb15⟩
    · have HV := Lib.hid (subM_no (s := s) (fold := fold) (show okV p vars = false by rw [Bool.eq_false_iff]; exact fun h => hk0 (hok.2 h)))
      have e3 : ((k0 : Int) != 0) = true := by rw [bne_iff_ne]; omega
      clear hok hown hsl hnn hk0
      go_wp2_with fail
      go_ret
      exact ⟨ret_bool HV.out.symm, hb13⟩
  · have HV := Lib.hid (subM_bad (p := p) (vars := vars) (fold := fold) hi)
    have d3 : decide ((0 : Int) ≤ (i : Int)) = true := decide_eq_true (by omega)
    clear hi hok
    by_cases hk0 : k0 = 0
    · have e3 : ((k0 : Int) != 0) = false := by subst hk0; rfl
      clear hk0
      go_wp2_with fail
      go_ret
      exact ⟨ret_bool HV.out.symm, hb13⟩
    · have e3 : ((k0 : Int) != 0) = true := by rw [bne_iff_ne]; omega
      clear hk0
      go_wp2_with fail
      go_ret
      exact ⟨ret_bool HV.out.symm, hb13⟩
end Go.Proofs.YtkgifenidmbdkaaGreatDoor

/- errors.As at a pointer to a fault: its contract (after the kit's worked example of errors.As at a concrete target, turned to this program's types and numbers). -/
namespace Go.Proofs.YtkgifenidmbdkaaGreatDoor
open Go.RowKit Go.Extern.Stop Go.Stop Go.Extern


theorem as_nil (t : Value) (w : World) :
    Calls Tryz.prog 46 #[.nilIface, t] w fun e w' => e = .returned (.bool false) ∧ w' = w := by
  go_enter Tryz.func46, Tryz.ntmps46
  go_wp2
  go_ret
  exact ⟨rfl, rfl⟩

theorem As_valueOf27 (t : Addr) (w : World) : (ReflectliteValue.unpack (.iface 100 (.pointer (some t)))).run Tryz.prog w
    = .ok (.agg #[.pointer (some ⟨5, 100, none⟩), .pointer (some ⟨w.heap.size, 0, none⟩), .int .u64 150]) (w.alloc (.cells #[.pointer (some t)] 100)) := by kernel_rfl
theorem As_type27 (a : Addr) (w : World) : (ReflectliteValue.methodAny (ReflectliteValue.valueError "reflectlite.Value.Type" 0) (fun t _ _ _ => ReflectliteType.toType t) #[.agg #[.pointer (some ⟨5, 100, none⟩), .pointer (some a), .int .u64 150]]).run Tryz.prog w
    = .ok (.iface 202 (.agg #[.pointer (some ⟨5, 100, none⟩)])) w := by kernel_rfl
theorem As_methodKind (h : Value) (w : World) : (Go.method 468 202 (.agg #[h]) "Kind").run Tryz.prog w = .ok (256, h) w := by kernel_rfl
theorem As_kind27 (w : World) : ((ReflectliteType.abiMethod fun t => (fun a : Nat => Value.int IntKind.u8 (a : Int)) <$> Rtype.kind t) #[.pointer (some ⟨5, 100, none⟩)]).run Tryz.prog w = .ok (.int .u8 22) w := by kernel_rfl
theorem As_kind25 (w : World) : ((ReflectliteType.abiMethod fun t => (fun a : Nat => Value.int IntKind.u8 (a : Int)) <$> Rtype.kind t) #[.pointer (some ⟨5, 98, none⟩)]).run Tryz.prog w = .ok (.int .u8 22) w := by kernel_rfl

theorem rlm (z : Sem Value) (f : TypeId → Addr → Nat → Nat → Sem Value) (v : Value) :
    ReflectliteValue.method z f #[v] = (do match ← ReflectliteValue.parts v with | none => z | some (t, a, fl) => f t a fl (fl % 32)) := rfl
theorem As_parts27 (a : Addr) (w : World) : (ReflectliteValue.parts (.agg #[.pointer (some ⟨5, 100, none⟩), .pointer (some a), .int .u64 150])).run Tryz.prog w = .ok (some (100, a, 150)) w := by kernel_rfl
theorem As_isNil27 (a p : Addr) (W : World) (ha : W.cell? a = some (.pointer (some p))) :
    (ReflectliteValue.method (ReflectliteValue.valueError "reflectlite.Value.IsNil" 0) ReflectliteValue.isNil #[.agg #[.pointer (some ⟨5, 100, none⟩), .pointer (some a), .int .u64 150]]).run Tryz.prog W = .ok (.bool false) W := by
  rw [rlm]
  simp only [Sem.run_bind, As_parts27, Result.andThen]
  simp [ReflectliteValue.isNil, loadVar, isAgg, underlying, Tryz.underlying100, ha, Result.andThen]

theorem As_methodElem (h : Value) (w : World) : (Go.method 468 202 (.agg #[h]) "Elem").run Tryz.prog w = .ok (268, .agg #[h]) w := by kernel_rfl
theorem As_methodImplements (h : Value) (w : World) : (Go.method 468 202 (.agg #[h]) "Implements").run Tryz.prog w = .ok (269, .agg #[h]) w := by kernel_rfl
theorem As_methodAssignableTo (h : Value) (w : World) : (Go.method 468 202 (.agg #[h]) "AssignableTo").run Tryz.prog w = .ok (266, .agg #[h]) w := by kernel_rfl
theorem As_elem27 (w : World) : (ReflectliteType.method ReflectliteType.elem #[.agg #[.pointer (some ⟨5, 100, none⟩)]]).run Tryz.prog w = .ok (.iface 202 (.agg #[.pointer (some ⟨5, 98, none⟩)])) w := by kernel_rfl
theorem As_implements25 (w : World) : (ReflectliteType.relation "Implements" ReflectliteType.implements_ #[.agg #[.pointer (some ⟨5, 98, none⟩)], .iface 202 (.agg #[.pointer (some ⟨5, 28, none⟩)])]).run Tryz.prog w = .ok (.bool true) w := by kernel_rfl
theorem As_typeOf25 (v : Value) (w : World) : (ReflectliteType.typeOf #[.iface 98 v]).run Tryz.prog w = .ok (.iface 202 (.agg #[.pointer (some ⟨5, 98, none⟩)])) w := by kernel_rfl
theorem As_assignable25 (w : World) : (ReflectliteType.relation "AssignableTo" ReflectliteType.assignableTo #[.agg #[.pointer (some ⟨5, 98, none⟩)], .iface 202 (.agg #[.pointer (some ⟨5, 98, none⟩)])]).run Tryz.prog w = .ok (.bool true) w := by kernel_rfl
theorem As_valueOf25 (e : Addr) (w : World) : (ReflectliteValue.unpack (.iface 98 (.pointer (some e)))).run Tryz.prog w
    = .ok (.agg #[.pointer (some ⟨5, 98, none⟩), .pointer (some ⟨w.heap.size, 0, none⟩), .int .u64 150]) (w.alloc (.cells #[.pointer (some e)] 98)) := by kernel_rfl

theorem As_elemOf27 (w : World) : (Rtype.elem? 100).run Tryz.prog w = .ok (some 98) w := by kernel_rfl
theorem As_mk25 (p : Addr) (w : World) : (ReflectliteValue.mk 98 p ReflectliteValue.flagAddr).run Tryz.prog w = .ok (.agg #[.pointer (some ⟨5, 98, none⟩), .pointer (some p), .int .u64 406]) w := by kernel_rfl
theorem As_elemV27 (a p : Addr) (W : World) (ha : W.cell? a = some (.pointer (some p))) :
    (ReflectliteValue.method (ReflectliteValue.valueError "reflectlite.Value.Elem" 0) ReflectliteValue.elem #[.agg #[.pointer (some ⟨5, 100, none⟩), .pointer (some a), .int .u64 150]]).run Tryz.prog W
      = .ok (.agg #[.pointer (some ⟨5, 98, none⟩), .pointer (some p), .int .u64 406]) W := by
  rw [rlm]
  simp only [Sem.run_bind, As_parts27, Result.andThen]
  simp [ReflectliteValue.elem, loadVar, isAgg, underlying, Tryz.underlying100, ha, Result.andThen, As_elemOf27, As_mk25]
theorem rls (v x : Value) : ReflectliteValue.set #[v, x] = (do
    let (some (dst, a, fl), some (src, b, _)) := (← ReflectliteValue.parts v, ← ReflectliteValue.parts x)
      | unsupported (.noEntry "extern/(internal/reflectlite.Value).Set.zeroValue")
    if fl / ReflectliteValue.flagAddr % 2 == 0 then unsupported (.noEntry "extern/(internal/reflectlite.Value).Set.unaddressable")
    let val ← loadVar src b
    if ← Rtype.directlyAssignable dst src then storeVar dst a val
    else if ← Rtype.implements dst src then
      if (← Rtype.kind src) == 20 then
        match val with
        | .nilIface => unsupported (.noEntry "extern/reflectlite: a nil value of one interface type handed on as a value of another")
        | _ => storeVar dst a val
      else storeVar dst a (.iface src val)
    else panicString ("reflectlite.Set: value of type " ++ (← Rtype.spelt src) ++ " is not assignable to type " ++ (← Rtype.spelt dst))
    pure (.tuple #[])) := rfl
theorem As_parts25a (a : Addr) (w : World) : (ReflectliteValue.parts (.agg #[.pointer (some ⟨5, 98, none⟩), .pointer (some a), .int .u64 406])).run Tryz.prog w = .ok (some (98, a, 406)) w := by kernel_rfl
theorem As_parts25 (a : Addr) (w : World) : (ReflectliteValue.parts (.agg #[.pointer (some ⟨5, 98, none⟩), .pointer (some a), .int .u64 150])).run Tryz.prog w = .ok (some (98, a, 150)) w := by kernel_rfl
theorem As_direct25 (w : World) : (Rtype.directlyAssignable 98 98).run Tryz.prog w = .ok true w := by kernel_rfl
theorem As_size25 (w : World) : (sizeOf 98).run Tryz.prog w = .ok 1 w := by kernel_rfl
theorem As_set25 (ta b e : Addr) (old : Value) (W : World) (hb : W.cell? b = some (.pointer (some e))) (ht : W.cell? ta = some old) (hf : W.frozen? ta = false) :
    (ReflectliteValue.set #[.agg #[.pointer (some ⟨5, 98, none⟩), .pointer (some ta), .int .u64 406], .agg #[.pointer (some ⟨5, 98, none⟩), .pointer (some b), .int .u64 150]]).run Tryz.prog W
      = .ok (.tuple #[]) (W.setCell ta (.pointer (some e))) := by
  rw [rls]
  simp only [Sem.run_bind, As_parts25a, As_parts25, Result.andThen]
  simp [ReflectliteValue.flagAddr, loadVar, isAgg, underlying, Tryz.underlying98, hb, Result.andThen, As_direct25, storeVar, Value.cells, storeCells, Addr.add]
  rw [run_store Tryz.prog W ta _ _ (by rfl)]
  simp [ht, hf]

set_option maxHeartbeats 4000000 in
theorem as_hit (e t : Addr) (old : Value) (w : World) (hg : w.cell? ⟨0, 0, none⟩ = some (.iface 202 (.agg #[.pointer (some ⟨5, 28, none⟩)]))) (ht0 : w.cell? t = some old) (hf0 : w.frozen? t = false) :
    Calls Tryz.prog 46 #[.iface 98 (.pointer (some e)), .iface 100 (.pointer (some t))] w fun ev w' => ev = .returned (.bool true) ∧ w' = ((((w.alloc (.cells #[.pointer (some t)] 100)).alloc (.cells #[.pointer (some ⟨5, 100, none⟩), .pointer (some ⟨w.heap.size, 0, none⟩), .int .u64 150] 156)).alloc (.cells #[.pointer (some ⟨5, 100, none⟩), .pointer (some ⟨w.heap.size, 0, none⟩), .int .u64 150] 156)).alloc (.cells #[.pointer (some e)] 98)).setCell t (.pointer (some e)) := by
  have h6 := @run_callFunc_extern Tryz.prog 75 _ (fun args => ReflectliteValue.unpack (args.getD 0 (.tuple #[]))) Tryz.func75 (by kernel_rfl) (by kernel_rfl) (by kernel_rfl) (by kernel_rfl)
  have h7 := @run_callFunc_extern Tryz.prog 76 _ (ReflectliteValue.methodAny (ReflectliteValue.valueError "reflectlite.Value.Type" 0) (fun t _ _ _ => ReflectliteType.toType t)) Tryz.func76 (by kernel_rfl) (by kernel_rfl) (by kernel_rfl) (by kernel_rfl)
  have h8 := @run_callFunc_extern Tryz.prog 77 _ (ReflectliteValue.method (ReflectliteValue.valueError "reflectlite.Value.IsNil" 0) ReflectliteValue.isNil) Tryz.func77 (by kernel_rfl) (by kernel_rfl) (by kernel_rfl) (by kernel_rfl)
  have h27 := @run_callFunc_extern Tryz.prog 256 _ (ReflectliteType.abiMethod fun t => do pure (.int .u8 (← Rtype.kind t))) Tryz.func256 (by kernel_rfl) (by kernel_rfl) (by kernel_rfl) (by kernel_rfl)
  have h37 := @run_callFunc_extern Tryz.prog 268 _ (ReflectliteType.method ReflectliteType.elem) Tryz.func268 (by kernel_rfl) (by kernel_rfl) (by kernel_rfl) (by kernel_rfl)
  have h38 := @run_callFunc_extern Tryz.prog 269 _ (ReflectliteType.relation "Implements" ReflectliteType.implements_) Tryz.func269 (by kernel_rfl) (by kernel_rfl) (by kernel_rfl) (by kernel_rfl)
  have h10 := @run_callFunc_extern Tryz.prog 112 _ ReflectliteType.typeOf Tryz.func112 (by kernel_rfl) (by kernel_rfl) (by kernel_rfl) (by kernel_rfl)
  have h35 := @run_callFunc_extern Tryz.prog 266 _ (ReflectliteType.relation "AssignableTo" ReflectliteType.assignableTo) Tryz.func266 (by kernel_rfl) (by kernel_rfl) (by kernel_rfl) (by kernel_rfl)
  have h11 := @run_callFunc_extern Tryz.prog 113 _ (ReflectliteValue.method (ReflectliteValue.valueError "reflectlite.Value.Elem" 0) ReflectliteValue.elem) Tryz.func113 (by kernel_rfl) (by kernel_rfl) (by kernel_rfl) (by kernel_rfl)
  have h12 := @run_callFunc_extern Tryz.prog 114 _ ReflectliteValue.set Tryz.func114 (by kernel_rfl) (by kernel_rfl) (by kernel_rfl) (by kernel_rfl)
  have tO := As_typeOf25
  have mA := As_methodAssignableTo
  have a25 := As_assignable25
  have v25 := As_valueOf25
  have f6 := As_valueOf27
  have f7 := As_type27
  have mK := As_methodKind
  have mE := As_methodElem
  have mI := As_methodImplements
  have k27 := As_kind27
  have k25 := As_kind25
  have e27 := As_elem27
  have i25 := As_implements25
  have n8 := As_isNil27 ⟨w.heap.size, 0, none⟩ t ((w.alloc (.cells #[.pointer (some t)] 100)).alloc (.cells #[.pointer (some ⟨5, 100, none⟩), .pointer (some ⟨w.heap.size, 0, none⟩), .int .u64 150] 156)) (by simp)
  have hlt : 0 < w.heap.size := World.block_lt_of_cell? w _ hg
  have hg2 : ((w.alloc (.cells #[.pointer (some t)] 100)).alloc (.cells #[.pointer (some ⟨5, 100, none⟩), .pointer (some ⟨w.heap.size, 0, none⟩), .int .u64 150] 156)).cell? ⟨0, 0, none⟩ = some (.iface 202 (.agg #[.pointer (some ⟨5, 28, none⟩)])) := by
    rw [World.cell?_alloc_lt _ _ ⟨0, 0, none⟩ (by first | (simp; done) | (simp; omega)), World.cell?_alloc_lt _ _ ⟨0, 0, none⟩ hlt]; exact hg
  have htl : t.block < w.heap.size := by
    rcases Nat.lt_or_ge t.block w.heap.size with h | h
    · exact h
    · simp [World.cell?, Array.getElem?_eq_none h] at ht0
  have el := As_elemV27 ⟨w.heap.size, 0, none⟩ t (((w.alloc (.cells #[.pointer (some t)] 100)).alloc (.cells #[.pointer (some ⟨5, 100, none⟩), .pointer (some ⟨w.heap.size, 0, none⟩), .int .u64 150] 156)).alloc (.cells #[.pointer (some ⟨5, 100, none⟩), .pointer (some ⟨w.heap.size, 0, none⟩), .int .u64 150] 156)) (by rw [World.cell?_alloc_lt _ _ ⟨w.heap.size, 0, none⟩ (by simp; omega)]; simp)
  have st := As_set25 t ⟨w.heap.size + 1 + 1 + 1, 0, none⟩ e old ((((w.alloc (.cells #[.pointer (some t)] 100)).alloc (.cells #[.pointer (some ⟨5, 100, none⟩), .pointer (some ⟨w.heap.size, 0, none⟩), .int .u64 150] 156)).alloc (.cells #[.pointer (some ⟨5, 100, none⟩), .pointer (some ⟨w.heap.size, 0, none⟩), .int .u64 150] 156)).alloc (.cells #[.pointer (some e)] 98))
    (by rw [World.cell?_alloc_at _ _ _ _ (by simp)]; rfl)
    (by rw [World.cell?_alloc_lt _ _ t (by simp; omega), World.cell?_alloc_lt _ _ t (by simp; omega), World.cell?_alloc_lt _ _ t (by simp; omega), World.cell?_alloc_lt _ _ t htl]; exact ht0)
    (by rw [World.frozen?_alloc_old _ _ t (by simp; omega), World.frozen?_alloc_old _ _ t (by simp; omega), World.frozen?_alloc_old _ _ t (by simp; omega), World.frozen?_alloc_old _ _ t (Nat.ne_of_lt htl)]; exact hf0)
  go_enter Tryz.func46, Tryz.ntmps46
  go_wp2
  refine wp_loop_rounds 1 ?_
  rw [rounds_succ]
  go_wp2
  go_ret
  exact ⟨rfl, rfl⟩
end Go.Proofs.YtkgifenidmbdkaaGreatDoor
