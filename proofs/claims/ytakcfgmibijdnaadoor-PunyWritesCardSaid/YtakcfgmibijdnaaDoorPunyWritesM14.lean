/- Rows of numbers of the call's own: appending a row to one; parts of one. -/
import Derived.Test.YtakcfgmibijdnaaDoorPunyWritesM2
import Derived.Test.YtakcfgmibijdnaaDoorPunyWritesM5
import Derived.Test.YtakcfgmibijdnaaDoorPunyWritesM7
import Derived.Test.YtakcfgmibijdnaaDoorPunyWritesM1
import Derived.LaidEql
import Derived.Stop.Asserts
import Derived.RowKitTokens
import Derived.Test.YtakcfgmibijdnaaDoorPunyWritesM3

namespace Go.Proofs.YtakcfgmibijdnaaDoor
open Go.RowKit

def intsN (l : List Nat) : List Int := l.map fun c : Nat => (c : Int)
theorem intsN_len (l : List Nat) : (intsN l).length = l.length := by simp [intsN]
theorem intsN_app (a b : List Nat) : intsN (a ++ b) = intsN a ++ intsN b := by simp [intsN]
theorem intsN_at (l : List Nat) (j : Nat) (h : j < l.length) : (intsN l).getD j 0 = (l[j] : Int) := by simp [intsN, List.getD, h]
theorem OwnN.cellAt {w : World} {base : Nat} {a : Option Addr} {n c : Nat} {l : List Nat} (h : OwnN w base (.slice a n c) l) {j : Nat} (hj : j < l.length) : ∃ g, a = some ⟨g, 0, none⟩ ∧ base ≤ g ∧ g < w.heap.size ∧ l.length ≤ c ∧ c ≤ maxLen ∧ w.cell? ⟨g, j, none⟩ = some (.int .i64 (l[j] : Int)) := by
  rcases h.2 with ⟨e, h0⟩ | ⟨g, cap, cur, e, hg, hh, h1, h2, _⟩
  · omega
  · cases e
    have := World.ownsRow.cellAt h j (by omega)
    refine ⟨g, rfl, hg, lt_of_block hh, h1, h2, ?_⟩
    rw [this]
    simp [hj, intV]
/-- A part of a row of the call's own. -/
theorem OwnN.part {w : World} {base g c : Nat} {n : Nat} {l : List Nat} (h : OwnN w base (.slice (some ⟨g, 0, none⟩) n c) l) (i j cp : Nat) (hij : i ≤ j) (hj : j ≤ l.length) (hcp : j - i ≤ cp) (hcm : cp ≤ maxLen) : IntsSl w (.slice (some ⟨g, i, none⟩) (j - i) cp) (intsN ((l.take j).drop i)) := by
  have hlen : ((l.take j).drop i).length = j - i := by simp; omega
  by_cases h0 : j - i = 0
  · refine .inl ⟨?_, some ⟨g, i, none⟩, cp, by rw [h0]⟩
    rw [List.eq_nil_of_length_eq_zero (by omega : ((l.take j).drop i).length = 0)]; rfl
  · have hl0 : 0 < l.length := by omega
    obtain ⟨g', e, _, hg, _, _, _⟩ := h.cellAt (j := 0) hl0
    cases e
    refine .inr ⟨g, i, cp, by rw [intsN_len, hlen], by rw [intsN_len, hlen]; exact hcp, hcm, hg, fun k hk => ?_⟩
    rw [intsN_len, hlen] at hk
    obtain ⟨g', e, _, _, _, _, hc⟩ := h.cellAt (j := i + k) (by omega)
    cases e
    rw [hc, intsN_at _ _ (by omega)]
    simp
theorem OwnN.sl {w : World} {base : Nat} {v : Value} {l : List Nat} (h : OwnN w base v l) : IntsSl w v (intsN l) := by
  rcases h.2 with ⟨e, h0⟩ | ⟨g, cap, cur, e, hg, hh, h1, h2, _⟩
  · rw [List.eq_nil_of_length_eq_zero h0]; subst e; exact .inl ⟨rfl, none, 0, rfl⟩
  · subst e
    refine .inr ⟨g, 0, cap, by rw [intsN_len], by rw [intsN_len]; exact h1, h2, lt_of_block hh, fun k hk => ?_⟩
    rw [intsN_len] at hk
    obtain ⟨g', e, _, _, _, _, hc⟩ := h.cellAt (j := k) hk
    cases e
    rw [Nat.zero_add, hc, intsN_at _ _ hk]
theorem OwnN.lit0 (w : World) (base : Nat) (hb : base ≤ w.heap.size) : OwnN (w.alloc (.cells #[] 3)) base (.slice (some ⟨w.heap.size, 0, none⟩) 0 0) [] :=
  World.ownsRow_lit w #[] 0 hb (Nat.zero_le _) rfl
/-- A row of any numbers of the call's own. -/
def OwnZ (w : World) (base : Nat) (v : Value) (l : List Int) : Prop := w.ownsRow base 3 1 v l.length (l.map (Value.int .i64))
theorem ownZ_N {w : World} {base : Nat} {v : Value} {l : List Nat} : OwnZ w base v (intsN l) ↔ OwnN w base v l := by
  unfold OwnZ OwnN
  rw [intsN_len]
  have : (intsN l).map (Value.int .i64) = l.map intV := by unfold intsN; rw [List.map_map]; rfl
  rw [this]
theorem OwnZ.below {w w' : World} {base : Nat} {v : Value} {l : List Int} (h : OwnZ w base v l) (hb : Below w.heap.size w w') : OwnZ w' base v l := ownsRow_below h hb
theorem OwnZ.lit0 (w : World) (base : Nat) (hb : base ≤ w.heap.size) : OwnZ (w.alloc (.cells #[] 3)) base (.slice (some ⟨w.heap.size, 0, none⟩) 0 0) [] :=
  World.ownsRow_lit w #[] 0 hb (Nat.zero_le _) rfl
theorem OwnZ.sl {w : World} {base : Nat} {v : Value} {l : List Int} (h : OwnZ w base v l) : IntsSl w v l := by
  rcases h.2 with ⟨e, h0⟩ | ⟨g, cap, cur, e, hg, hh, h1, h2, _⟩
  · rw [List.eq_nil_of_length_eq_zero h0]; subst e; exact .inl ⟨rfl, none, 0, rfl⟩
  · subst e
    refine .inr ⟨g, 0, cap, rfl, h1, h2, lt_of_block hh, fun k hk => ?_⟩
    have := World.ownsRow.cellAt h k (by omega)
    rw [Nat.zero_add, this]
    simp [hk, List.getD]
theorem wpList_app_intsZ {w : World} {ops : Array Oper} {rest : List Oper} {o : Oper} {a : Act} {Q : Exit → Act → World → Prop} (hgd : o.guard = none) (s x : Operand) (ho : o.op = .call { callee := .builtin .append, args := #[s, x], argTypes := #[59, 59] })
    (base : Nat) (v : Value) (l : List Int) (hs : a.eval s = v) (hown : OwnZ w base v l) (y : Value) (S : List Int) (hx : a.eval x = y) (hy : IntsSl w y S)
    (hl : l.length + S.length ≤ 1073741824) (hbase : base ≤ w.heap.size)
    (h : ∀ v' w', OwnZ w' base v' (l ++ S) → w.grownBy w' v.ownBlock → wpList Tryd.prog ops Q rest (a.put o.dst v') w') : wpList Tryd.prog ops Q (o :: rest) a w := by
  obtain ⟨i, hi, hz, hsize, hby⟩ := info_parts info_int
  rcases hy with ⟨rfl, ad, cap, rfl⟩ | ⟨b, off, cap, rfl, hc, hcm, hbs, hp⟩
  · have hsrc : Src Tryd.prog i.size 59 (.slice ad 0 cap) 0 [] w := by
      cases ad with
      | none => exact Src.ofNil w Tryd.underlying59 cap
      | some ad => exact Src.ofSlice w Tryd.underlying59 ad 0 cap [] (by simp) (by simp) (by simp)
    refine wpList_plain hgd fun K hK => ?_
    have hrun : (Builtin.append_ #[59, 59] o.type #[v, .slice ad 0 cap]).run Tryd.prog w = .ok v w := by
      rcases hown.2 with ⟨e, _⟩ | ⟨g, c, cur, e, _, _, h1, _⟩
      · subst e
        exact run_append_nothing w _ _ _ 3 i Tryd.underlying59 hi none 0 0 (Nat.le_refl _) _ hsrc
      · subst e
        exact run_append_nothing w _ _ _ 3 i Tryd.underlying59 hi _ _ _ h1 _ hsrc
    unfold Oper.wp
    simp [execOp, ho, resolve, invoke, builtin, hs, hx, hrun, Result.andThen]
    refine hK _ _ (h v w (by rw [List.append_nil]; exact hown) (below_grownBy (Below.refl _ _) _))
  · refine wpList_append_own _ hgd s x 59 ho base 3 i (.int .i64 0) 1 8 Tryd.underlying59 hi hz hsize hby rfl (by decide) v _ _ hs hown _ _ cap (S.map (Value.int .i64)) hx (by simp) ?_ ?_ (by unfold maxLen; omega) (by omega) hbase ?_
    · intro j u hj
      have hj' : j < S.length := by
        have := (List.getElem?_eq_some_iff.1 hj).1
        simpa using this
      rw [Addr.add_lit, hp j hj', ← hj]
      simp [hj', List.getD]
    · intro u hu
      obtain ⟨_, _, rfl⟩ := List.mem_map.1 hu
      rfl
    · intro v' w' h1 h2 _
      refine h v' w' ?_ h2
      unfold OwnZ
      rw [List.length_append, List.map_append]
      exact h1
theorem wpList_app_ints {w : World} {ops : Array Oper} {rest : List Oper} {o : Oper} {a : Act} {Q : Exit → Act → World → Prop} (hgd : o.guard = none) (s x : Operand) (ho : o.op = .call { callee := .builtin .append, args := #[s, x], argTypes := #[59, 59] })
    (base : Nat) (v : Value) (l : List Nat) (hs : a.eval s = v) (hown : OwnN w base v l) (y : Value) (S : List Nat) (hx : a.eval x = y) (hy : IntsSl w y (intsN S))
    (hl : l.length + S.length ≤ 1073741824) (hbase : base ≤ w.heap.size)
    (h : ∀ v' w', OwnN w' base v' (l ++ S) → w.grownBy w' v.ownBlock → wpList Tryd.prog ops Q rest (a.put o.dst v') w') : wpList Tryd.prog ops Q (o :: rest) a w := by
  refine wpList_app_intsZ hgd s x ho base v (intsN l) hs (ownZ_N.2 hown) y (intsN S) hx hy (by rw [intsN_len, intsN_len]; exact hl) hbase fun v' w' h1 h2 => h v' w' ?_ h2
  rw [← intsN_app] at h1
  exact ownZ_N.1 h1
end Go.Proofs.YtakcfgmibijdnaaDoor

/- The reference's Same of numbers, of the same ones. -/
namespace Go.Proofs.YtakcfgmibijdnaaDoor
open Go.RowKit

set_option maxHeartbeats 1600000 in
set_option maxRecDepth 100000 in
theorem ref05_Same (x y : Value) (l : List Int) (w : World) (hx : IntsSl w x l) (hy : IntsSl w y l) (hl : l.length ≤ 1000000) : Calls Tryd.prog 31 #[x, y] w fun e w' => e = .returned (.bool true) ∧ ∃ q, w.drewN q = w' := by
  by_cases h0 : l = []
  · subst h0
    obtain ⟨a, c, rfl⟩ : ∃ a c, x = .slice a 0 c := by
      rcases hx with ⟨_, a, c, rfl⟩ | ⟨b, off, cap, rfl, _⟩
      · exact ⟨a, c, rfl⟩
      · exact ⟨_, _, rfl⟩
    obtain ⟨a2, c2, rfl⟩ : ∃ a c, y = .slice a 0 c := by
      rcases hy with ⟨_, a, c, rfl⟩ | ⟨b, off, cap, rfl, _⟩
      · exact ⟨a, c, rfl⟩
      · exact ⟨_, _, rfl⟩
    clear hx hy
    go_enter Tryd.func31, Tryd.ntmps31
    go_wp2_with fail
    refine wp_loop_rounds 1 ?_
    rw [rounds_succ]
    go_wp2_with fail
    go_ret
    exact ⟨rfl, 0, rfl⟩
  · rcases hx with ⟨h, _⟩ | ⟨b, off, cap, rfl, hc, hcm, hbs, hp⟩
    · exact absurd h h0
    rcases hy with ⟨h, _⟩ | ⟨b2, off2, cap2, rfl, hc2, hcm2, hbs2, hp2⟩
    · exact absurd h h0
    unfold maxLen at hcm hcm2
    have HP := Lib.hid hp
    have HP2 := Lib.hid hp2
    have e0 : ((l.length : Int) != (l.length : Int)) = false := by simp
    clear hp hp2 h0
    go_enter Tryd.func31, Tryd.ntmps31
    go_wp2_with fail
    go_loopw [5] (fun v wr => ∃ i q : Nat, i ≤ l.length ∧ v = .int .i64 i ∧ w.drewN q = wr) (fun v _ => l.length - (intOf v).toNat)
    case atStart => exact ⟨0, 0, Nat.zero_le _, rfl, rfl⟩
    case round =>
      obtain ⟨i, q, hil, rfl, hwr⟩ := hrel
      have HW := Lib.hid hwr
      by_cases hlt : i < l.length
      · have hbw : Below w.heap.size w wr := by rw [← hwr]; exact below_drewN (Below.refl _ _) q
        have h1 : wr.cell? ⟨b, off + i, none⟩ = some (.int .i64 (l.getD i 0)) := (hbw.cell (p := ⟨b, off + i, none⟩) hbs).trans (HP.out i hlt)
        have h2 : wr.cell? ⟨b2, off2 + i, none⟩ = some (.int .i64 (l.getD i 0)) := (hbw.cell (p := ⟨b2, off2 + i, none⟩) hbs2).trans (HP2.out i hlt)
        generalize l.getD i 0 = c at *
        have hiI : (i : Int) < (l.length : Int) := by omega
        have e1 : (c != c) = false := by simp
        clear hwr hbw
        go_wp2_with fail
        go_quiet (fail)
        go_wp2_with fail
        go_roundw
        case rel => exact ⟨i + 1, _, by omega, by go_num, by first | exact HW.out | rw [← HW.out, World.drewN_drewN]⟩
        case measure => simp [intOf]; omega
      · obtain rfl : i = l.length := by omega
        have hiI : ¬ (l.length : Int) < (l.length : Int) := by omega
        clear hwr
        go_wp2_with fail
        go_ret
        exact ⟨rfl, _, HW.out⟩
end Go.Proofs.YtakcfgmibijdnaaDoor

/- errors.As at a pointer to a fault: its contract (after the kit's worked example of errors.As at a concrete target, turned to this program's types and numbers). -/
namespace Go.Proofs.YtakcfgmibijdnaaDoor
open Go.RowKit Go.Extern.Stop Go.Stop Go.Extern


theorem as_nil (t : Value) (w : World) :
    Calls Tryd.prog 49 #[.nilIface, t] w fun e w' => e = .returned (.bool false) ∧ w' = w := by
  go_enter Tryd.func49, Tryd.ntmps49
  go_wp2
  go_ret
  exact ⟨rfl, rfl⟩

theorem As_valueOf27 (t : Addr) (w : World) : (ReflectliteValue.unpack (.iface 98 (.pointer (some t)))).run Tryd.prog w
    = .ok (.agg #[.pointer (some ⟨5, 98, none⟩), .pointer (some ⟨w.heap.size, 0, none⟩), .int .u64 150]) (w.alloc (.cells #[.pointer (some t)] 98)) := by kernel_rfl
theorem As_type27 (a : Addr) (w : World) : (ReflectliteValue.methodAny (ReflectliteValue.valueError "reflectlite.Value.Type" 0) (fun t _ _ _ => ReflectliteType.toType t) #[.agg #[.pointer (some ⟨5, 98, none⟩), .pointer (some a), .int .u64 150]]).run Tryd.prog w
    = .ok (.iface 204 (.agg #[.pointer (some ⟨5, 98, none⟩)])) w := by kernel_rfl
theorem As_methodKind (h : Value) (w : World) : (Go.method 397 204 (.agg #[h]) "Kind").run Tryd.prog w = .ok (208, h) w := by kernel_rfl
theorem As_kind27 (w : World) : ((ReflectliteType.abiMethod fun t => (fun a : Nat => Value.int IntKind.u8 (a : Int)) <$> Rtype.kind t) #[.pointer (some ⟨5, 98, none⟩)]).run Tryd.prog w = .ok (.int .u8 22) w := by kernel_rfl
theorem As_kind25 (w : World) : ((ReflectliteType.abiMethod fun t => (fun a : Nat => Value.int IntKind.u8 (a : Int)) <$> Rtype.kind t) #[.pointer (some ⟨5, 96, none⟩)]).run Tryd.prog w = .ok (.int .u8 22) w := by kernel_rfl

theorem rlm (z : Sem Value) (f : TypeId → Addr → Nat → Nat → Sem Value) (v : Value) :
    ReflectliteValue.method z f #[v] = (do match ← ReflectliteValue.parts v with | none => z | some (t, a, fl) => f t a fl (fl % 32)) := rfl
theorem As_parts27 (a : Addr) (w : World) : (ReflectliteValue.parts (.agg #[.pointer (some ⟨5, 98, none⟩), .pointer (some a), .int .u64 150])).run Tryd.prog w = .ok (some (98, a, 150)) w := by kernel_rfl
theorem As_isNil27 (a p : Addr) (W : World) (ha : W.cell? a = some (.pointer (some p))) :
    (ReflectliteValue.method (ReflectliteValue.valueError "reflectlite.Value.IsNil" 0) ReflectliteValue.isNil #[.agg #[.pointer (some ⟨5, 98, none⟩), .pointer (some a), .int .u64 150]]).run Tryd.prog W = .ok (.bool false) W := by
  rw [rlm]
  simp only [Sem.run_bind, As_parts27, Result.andThen]
  simp [ReflectliteValue.isNil, loadVar, isAgg, underlying, Tryd.underlying98, ha, Result.andThen]

theorem As_methodElem (h : Value) (w : World) : (Go.method 397 204 (.agg #[h]) "Elem").run Tryd.prog w = .ok (222, .agg #[h]) w := by kernel_rfl
theorem As_methodImplements (h : Value) (w : World) : (Go.method 397 204 (.agg #[h]) "Implements").run Tryd.prog w = .ok (223, .agg #[h]) w := by kernel_rfl
theorem As_methodAssignableTo (h : Value) (w : World) : (Go.method 397 204 (.agg #[h]) "AssignableTo").run Tryd.prog w = .ok (220, .agg #[h]) w := by kernel_rfl
theorem As_elem27 (w : World) : (ReflectliteType.method ReflectliteType.elem #[.agg #[.pointer (some ⟨5, 98, none⟩)]]).run Tryd.prog w = .ok (.iface 204 (.agg #[.pointer (some ⟨5, 96, none⟩)])) w := by kernel_rfl
theorem As_implements25 (w : World) : (ReflectliteType.relation "Implements" ReflectliteType.implements_ #[.agg #[.pointer (some ⟨5, 96, none⟩)], .iface 204 (.agg #[.pointer (some ⟨5, 33, none⟩)])]).run Tryd.prog w = .ok (.bool true) w := by kernel_rfl
theorem As_typeOf25 (v : Value) (w : World) : (ReflectliteType.typeOf #[.iface 96 v]).run Tryd.prog w = .ok (.iface 204 (.agg #[.pointer (some ⟨5, 96, none⟩)])) w := by kernel_rfl
theorem As_assignable25 (w : World) : (ReflectliteType.relation "AssignableTo" ReflectliteType.assignableTo #[.agg #[.pointer (some ⟨5, 96, none⟩)], .iface 204 (.agg #[.pointer (some ⟨5, 96, none⟩)])]).run Tryd.prog w = .ok (.bool true) w := by kernel_rfl
theorem As_valueOf25 (e : Addr) (w : World) : (ReflectliteValue.unpack (.iface 96 (.pointer (some e)))).run Tryd.prog w
    = .ok (.agg #[.pointer (some ⟨5, 96, none⟩), .pointer (some ⟨w.heap.size, 0, none⟩), .int .u64 150]) (w.alloc (.cells #[.pointer (some e)] 96)) := by kernel_rfl

theorem As_elemOf27 (w : World) : (Rtype.elem? 98).run Tryd.prog w = .ok (some 96) w := by kernel_rfl
theorem As_mk25 (p : Addr) (w : World) : (ReflectliteValue.mk 96 p ReflectliteValue.flagAddr).run Tryd.prog w = .ok (.agg #[.pointer (some ⟨5, 96, none⟩), .pointer (some p), .int .u64 406]) w := by kernel_rfl
theorem As_elemV27 (a p : Addr) (W : World) (ha : W.cell? a = some (.pointer (some p))) :
    (ReflectliteValue.method (ReflectliteValue.valueError "reflectlite.Value.Elem" 0) ReflectliteValue.elem #[.agg #[.pointer (some ⟨5, 98, none⟩), .pointer (some a), .int .u64 150]]).run Tryd.prog W
      = .ok (.agg #[.pointer (some ⟨5, 96, none⟩), .pointer (some p), .int .u64 406]) W := by
  rw [rlm]
  simp only [Sem.run_bind, As_parts27, Result.andThen]
  simp [ReflectliteValue.elem, loadVar, isAgg, underlying, Tryd.underlying98, ha, Result.andThen, As_elemOf27, As_mk25]
theorem rls (v x : Value) : ReflectliteValue.set #[v, x] = (do
    let (some (dst, a, fl), some (src, b, _)) := (← ReflectliteValue.parts v, ← ReflectliteValue.parts x)
      | unsupported (.noEntry "extern/(internal/reflectlite.Value).Set.zeroValue")
    if fl / ReflectliteValue.flagAddr % 2 == 0 then unsupported (.noEntry "extern/(internal/reflectlite.Value).Set.unaddressable")
    let val ← loadVar src b
    if ← Rtype.directlyAssignable dst src then storeVar dst a val
    else if ← Rtype.implements dst src then
      if (← Rtype.kind src) == 20 then
        match val with
        | .nilIface => unsupported (.noEntry "extern/reflectlite: a nil value of one interface type handed on as a value of another")
        | _ => storeVar dst a val
      else storeVar dst a (.iface src val)
    else panicString ("reflectlite.Set: value of type " ++ (← Rtype.spelt src) ++ " is not assignable to type " ++ (← Rtype.spelt dst))
    pure (.tuple #[])) := rfl
theorem As_parts25a (a : Addr) (w : World) : (ReflectliteValue.parts (.agg #[.pointer (some ⟨5, 96, none⟩), .pointer (some a), .int .u64 406])).run Tryd.prog w = .ok (some (96, a, 406)) w := by kernel_rfl
theorem As_parts25 (a : Addr) (w : World) : (ReflectliteValue.parts (.agg #[.pointer (some ⟨5, 96, none⟩), .pointer (some a), .int .u64 150])).run Tryd.prog w = .ok (some (96, a, 150)) w := by kernel_rfl
theorem As_direct25 (w : World) : (Rtype.directlyAssignable 96 96).run Tryd.prog w = .ok true w := by kernel_rfl
theorem As_size25 (w : World) : (sizeOf 96).run Tryd.prog w = .ok 1 w := by kernel_rfl
theorem As_set25 (ta b e : Addr) (old : Value) (W : World) (hb : W.cell? b = some (.pointer (some e))) (ht : W.cell? ta = some old) (hf : W.frozen? ta = false) :
    (ReflectliteValue.set #[.agg #[.pointer (some ⟨5, 96, none⟩), .pointer (some ta), .int .u64 406], .agg #[.pointer (some ⟨5, 96, none⟩), .pointer (some b), .int .u64 150]]).run Tryd.prog W
      = .ok (.tuple #[]) (W.setCell ta (.pointer (some e))) := by
  rw [rls]
  simp only [Sem.run_bind, As_parts25a, As_parts25, Result.andThen]
  simp [ReflectliteValue.flagAddr, loadVar, isAgg, underlying, Tryd.underlying96, hb, Result.andThen, As_direct25, storeVar, Value.cells, storeCells, Addr.add]
  rw [run_store Tryd.prog W ta _ _ (by rfl)]
  simp [ht, hf]

set_option maxHeartbeats 4000000 in
theorem as_hit (e t : Addr) (old : Value) (w : World) (hg : w.cell? ⟨0, 0, none⟩ = some (.iface 204 (.agg #[.pointer (some ⟨5, 33, none⟩)]))) (ht0 : w.cell? t = some old) (hf0 : w.frozen? t = false) :
    Calls Tryd.prog 49 #[.iface 96 (.pointer (some e)), .iface 98 (.pointer (some t))] w fun ev w' => ev = .returned (.bool true) ∧ w' = ((((w.alloc (.cells #[.pointer (some t)] 98)).alloc (.cells #[.pointer (some ⟨5, 98, none⟩), .pointer (some ⟨w.heap.size, 0, none⟩), .int .u64 150] 156)).alloc (.cells #[.pointer (some ⟨5, 98, none⟩), .pointer (some ⟨w.heap.size, 0, none⟩), .int .u64 150] 156)).alloc (.cells #[.pointer (some e)] 96)).setCell t (.pointer (some e)) := by
  have h6 := @run_callFunc_extern Tryd.prog 86 _ (fun args => ReflectliteValue.unpack (args.getD 0 (.tuple #[]))) Tryd.func86 (by kernel_rfl) (by kernel_rfl) (by kernel_rfl) (by kernel_rfl)
  have h7 := @run_callFunc_extern Tryd.prog 87 _ (ReflectliteValue.methodAny (ReflectliteValue.valueError "reflectlite.Value.Type" 0) (fun t _ _ _ => ReflectliteType.toType t)) Tryd.func87 (by kernel_rfl) (by kernel_rfl) (by kernel_rfl) (by kernel_rfl)
  have h8 := @run_callFunc_extern Tryd.prog 88 _ (ReflectliteValue.method (ReflectliteValue.valueError "reflectlite.Value.IsNil" 0) ReflectliteValue.isNil) Tryd.func88 (by kernel_rfl) (by kernel_rfl) (by kernel_rfl) (by kernel_rfl)
  have h27 := @run_callFunc_extern Tryd.prog 208 _ (ReflectliteType.abiMethod fun t => do pure (.int .u8 (← Rtype.kind t))) Tryd.func208 (by kernel_rfl) (by kernel_rfl) (by kernel_rfl) (by kernel_rfl)
  have h37 := @run_callFunc_extern Tryd.prog 222 _ (ReflectliteType.method ReflectliteType.elem) Tryd.func222 (by kernel_rfl) (by kernel_rfl) (by kernel_rfl) (by kernel_rfl)
  have h38 := @run_callFunc_extern Tryd.prog 223 _ (ReflectliteType.relation "Implements" ReflectliteType.implements_) Tryd.func223 (by kernel_rfl) (by kernel_rfl) (by kernel_rfl) (by kernel_rfl)
  have h10 := @run_callFunc_extern Tryd.prog 90 _ ReflectliteType.typeOf Tryd.func90 (by kernel_rfl) (by kernel_rfl) (by kernel_rfl) (by kernel_rfl)
  have h35 := @run_callFunc_extern Tryd.prog 220 _ (ReflectliteType.relation "AssignableTo" ReflectliteType.assignableTo) Tryd.func220 (by kernel_rfl) (by kernel_rfl) (by kernel_rfl) (by kernel_rfl)
  have h11 := @run_callFunc_extern Tryd.prog 127 _ (ReflectliteValue.method (ReflectliteValue.valueError "reflectlite.Value.Elem" 0) ReflectliteValue.elem) Tryd.func127 (by kernel_rfl) (by kernel_rfl) (by kernel_rfl) (by kernel_rfl)
  have h12 := @run_callFunc_extern Tryd.prog 128 _ ReflectliteValue.set Tryd.func128 (by kernel_rfl) (by kernel_rfl) (by kernel_rfl) (by kernel_rfl)
  have tO := As_typeOf25
  have mA := As_methodAssignableTo
  have a25 := As_assignable25
  have v25 := As_valueOf25
  have f6 := As_valueOf27
  have f7 := As_type27
  have mK := As_methodKind
  have mE := As_methodElem
  have mI := As_methodImplements
  have k27 := As_kind27
  have k25 := As_kind25
  have e27 := As_elem27
  have i25 := As_implements25
  have n8 := As_isNil27 ⟨w.heap.size, 0, none⟩ t ((w.alloc (.cells #[.pointer (some t)] 98)).alloc (.cells #[.pointer (some ⟨5, 98, none⟩), .pointer (some ⟨w.heap.size, 0, none⟩), .int .u64 150] 156)) (by simp)
  have hlt : 0 < w.heap.size := World.block_lt_of_cell? w _ hg
  have hg2 : ((w.alloc (.cells #[.pointer (some t)] 98)).alloc (.cells #[.pointer (some ⟨5, 98, none⟩), .pointer (some ⟨w.heap.size, 0, none⟩), .int .u64 150] 156)).cell? ⟨0, 0, none⟩ = some (.iface 204 (.agg #[.pointer (some ⟨5, 33, none⟩)])) := by
    rw [World.cell?_alloc_lt _ _ ⟨0, 0, none⟩ (by first | (simp; done) | (simp; omega)), World.cell?_alloc_lt _ _ ⟨0, 0, none⟩ hlt]; exact hg
  have htl : t.block < w.heap.size := by
    rcases Nat.lt_or_ge t.block w.heap.size with h | h
    · exact h
    · simp [World.cell?, Array.getElem?_eq_none h] at ht0
  have el := As_elemV27 ⟨w.heap.size, 0, none⟩ t (((w.alloc (.cells #[.pointer (some t)] 98)).alloc (.cells #[.pointer (some ⟨5, 98, none⟩), .pointer (some ⟨w.heap.size, 0, none⟩), .int .u64 150] 156)).alloc (.cells #[.pointer (some ⟨5, 98, none⟩), .pointer (some ⟨w.heap.size, 0, none⟩), .int .u64 150] 156)) (by rw [World.cell?_alloc_lt _ _ ⟨w.heap.size, 0, none⟩ (by simp; omega)]; simp)
  have st := As_set25 t ⟨w.heap.size + 1 + 1 + 1, 0, none⟩ e old ((((w.alloc (.cells #[.pointer (some t)] 98)).alloc (.cells #[.pointer (some ⟨5, 98, none⟩), .pointer (some ⟨w.heap.size, 0, none⟩), .int .u64 150] 156)).alloc (.cells #[.pointer (some ⟨5, 98, none⟩), .pointer (some ⟨w.heap.size, 0, none⟩), .int .u64 150] 156)).alloc (.cells #[.pointer (some e)] 96))
    (by rw [World.cell?_alloc_at _ _ _ _ (by simp)]; rfl)
    (by rw [World.cell?_alloc_lt _ _ t (by simp; omega), World.cell?_alloc_lt _ _ t (by simp; omega), World.cell?_alloc_lt _ _ t (by simp; omega), World.cell?_alloc_lt _ _ t htl]; exact ht0)
    (by rw [World.frozen?_alloc_old _ _ t (by simp; omega), World.frozen?_alloc_old _ _ t (by simp; omega), World.frozen?_alloc_old _ _ t (by simp; omega), World.frozen?_alloc_old _ _ t (Nat.ne_of_lt htl)]; exact hf0)
  go_enter Tryd.func49, Tryd.ntmps49
  go_wp2
  refine wp_loop_rounds 1 ?_
  rw [rounds_succ]
  go_wp2
  go_ret
  exact ⟨rfl, rfl⟩
end Go.Proofs.YtakcfgmibijdnaaDoor

/- The kind and the place of an error, as the statements read them. -/
namespace Go.Proofs.YtakcfgmibijdnaaDoor
open Go.RowKit

theorem as_world (b : Nat) (w w1 w' : World) (h1 : w1 = w.alloc (.cells #[.pointer none] 96))
    (hw : w' = ((((w1.alloc (.cells #[.pointer (some ⟨w.heap.size, 0, none⟩)] 98)).alloc (.cells #[.pointer (some ⟨5, 98, none⟩), .pointer (some ⟨w1.heap.size, 0, none⟩), .int .u64 150] 156)).alloc (.cells #[.pointer (some ⟨5, 98, none⟩), .pointer (some ⟨w1.heap.size, 0, none⟩), .int .u64 150] 156)).alloc (.cells #[.pointer (some ⟨b, 0, none⟩)] 96)).setCell ⟨w.heap.size, 0, none⟩ (.pointer (some ⟨b, 0, none⟩))) :
    Below w.heap.size w w' ∧ w'.cell? ⟨w.heap.size, 0, none⟩ = some (.pointer (some ⟨b, 0, none⟩)) := by
  have hs : w1.heap.size = w.heap.size + 1 := by rw [h1]; simp
  have hb0 : Below w.heap.size w w1 := by rw [h1]; exact (Below.refl _ _).alloc (Nat.le_refl _) _
  have hc : w1.cell? ⟨w.heap.size, 0, none⟩ = some (.pointer none) := by rw [h1]; simp
  subst hw
  refine ⟨((((hb0.alloc (by omega) _).alloc (by simp; omega) _).alloc (by simp; omega) _).alloc (by simp; omega) _).setCell (Nat.le_refl _) _, ?_⟩
  refine World.cell?_setCell_same (u := .pointer none) _ _ _ ?_
  rw [World.cell?_alloc_lt _ _ _ (by simp; omega), World.cell?_alloc_lt _ _ _ (by simp; omega), World.cell?_alloc_lt _ _ _ (by simp; omega), World.cell?_alloc_lt _ _ _ (by simp; omega), hc]

set_option maxHeartbeats 1600000 in
set_option maxRecDepth 100000 in
theorem fault_Kind_is (v : Value) (k i : Int) (inner : Value) (w : World) (hg : Handle w) (hv : FaultIs w v k i inner) :
    Calls Tryd.prog 14 #[v] w fun e w' => e = .returned (.int .i64 k) ∧ Below w.heap.size w w' := by
  obtain ⟨b, rfl, hblk⟩ := hv
  have hlt := lt_of_block hblk
  have hg1 : Handle (w.alloc (.cells #[.pointer none] 96)) := hg.below ((Below.refl _ _).alloc (Nat.le_refl _) _)
  have ht1 : (w.alloc (.cells #[.pointer none] 96)).cell? ⟨w.heap.size, 0, none⟩ = some (.pointer none) := by simp
  have hf1 : (w.alloc (.cells #[.pointer none] 96)).frozen? ⟨w.heap.size, 0, none⟩ = false := by simp
  go_enter Tryd.func14, Tryd.ntmps14
  go_wp2_with fail
  refine (as_hit ⟨b, 0, none⟩ ⟨w.heap.size, 0, none⟩ (.pointer none) _ hg1 ht1 hf1).mono ?_
  rintro e w' ⟨rfl, hw⟩
  obtain ⟨hb, hc0⟩ := as_world b w _ w' rfl hw
  have hcb : w'.cell? ⟨b, 0, none⟩ = some (.int .i64 k) := by
    rw [hb.cell hlt, cell_of_row w b 0 _ _ _ hblk]; rfl
  clear hw hg1 ht1 hf1
  go_wp2_with fail
  go_ret
  exact ⟨rfl, hb⟩

set_option maxHeartbeats 1600000 in
set_option maxRecDepth 100000 in
theorem fault_At_is (v : Value) (k i : Int) (inner : Value) (w : World) (hg : Handle w) (hv : FaultIs w v k i inner) :
    Calls Tryd.prog 15 #[v] w fun e w' => e = .returned (.int .i64 i) ∧ Below w.heap.size w w' := by
  obtain ⟨b, rfl, hblk⟩ := hv
  have hlt := lt_of_block hblk
  have hg1 : Handle (w.alloc (.cells #[.pointer none] 96)) := hg.below ((Below.refl _ _).alloc (Nat.le_refl _) _)
  have ht1 : (w.alloc (.cells #[.pointer none] 96)).cell? ⟨w.heap.size, 0, none⟩ = some (.pointer none) := by simp
  have hf1 : (w.alloc (.cells #[.pointer none] 96)).frozen? ⟨w.heap.size, 0, none⟩ = false := by simp
  go_enter Tryd.func15, Tryd.ntmps15
  go_wp2_with fail
  refine (as_hit ⟨b, 0, none⟩ ⟨w.heap.size, 0, none⟩ (.pointer none) _ hg1 ht1 hf1).mono ?_
  rintro e w' ⟨rfl, hw⟩
  obtain ⟨hb, hc0⟩ := as_world b w _ w' rfl hw
  have hcb : w'.cell? ⟨b, 1, none⟩ = some (.int .i64 i) := by
    rw [hb.cell hlt, cell_of_row w b 1 _ _ _ hblk]; rfl
  clear hw hg1 ht1 hf1
  go_wp2_with fail
  go_ret
  exact ⟨rfl, hb⟩

theorem fault_Kind_nil (w : World) : Calls Tryd.prog 14 #[.nilIface] w fun e w' => e = .returned (.int .i64 0) ∧ Below w.heap.size w w' := by
  go_enter Tryd.func14, Tryd.ntmps14
  go_wp2_with fail
  go_ret
  exact ⟨rfl, Below.refl _ _⟩

theorem fault_Kind (v : Value) (k i : Nat) (w : World) (hg : Handle w) (hv : IsErr w v k i) :
    Calls Tryd.prog 14 #[v] w fun e w' => e = .returned (.int .i64 (k : Int)) ∧ Below w.heap.size w w' := by
  rcases hv with ⟨rfl, rfl⟩ | ⟨_, n, hv⟩
  · exact fault_Kind_nil w
  · exact fault_Kind_is v k i n w hg hv
theorem fault_At (v : Value) (k i : Nat) (w : World) (hg : Handle w) (hv : IsErr w v k i) (hk : k ≠ 0) :
    Calls Tryd.prog 15 #[v] w fun e w' => e = .returned (.int .i64 (i : Int)) ∧ Below w.heap.size w w' := by
  rcases hv with ⟨rfl, rfl⟩ | ⟨_, n, hv⟩
  · exact absurd rfl hk
  · exact fault_At_is v k i n w hg hv
end Go.Proofs.YtakcfgmibijdnaaDoor

/- Chapter 9's told: is an error this one, at this place? -/
namespace Go.Proofs.YtakcfgmibijdnaaDoor
open Go.RowKit

theorem told09 (v : Value) (k i : Nat) (w : World) (hg : Handle w) (hv : IsErr w v k i) : Calls Tryd.prog 30 #[v, .int .i64 (k : Int), .int .i64 (i : Int)] w fun e w' => e = .returned (.bool true) ∧ Below w.heap.size w w' := by
  have cK := Lib.hid (fault_Kind v k i w hg hv)
  have ek : ((k : Int) == (k : Int)) = true := beq_self_eq_true _
  have ei : ((i : Int) == (i : Int)) = true := beq_self_eq_true _
  rcases hv with ⟨rfl, rfl⟩ | ⟨hk, n, hv⟩
  · go_enter Tryd.func30, Tryd.ntmps30
    go_wp2_with fail
    refine cK.out.mono ?_
    rintro e w1 ⟨rfl, hb1⟩
    go_wp2_with fail
    go_ret
    exact ⟨rfl, hb1⟩
  · have cA := Lib.hid (fun W hg hb => fault_At v k i W hg (.inr ⟨hk, n, FaultIs.below (w := w) hv hb⟩) hk)
    obtain ⟨p, rfl⟩ := hv.ne_nil
    clear hv hk
    go_enter Tryd.func30, Tryd.ntmps30
    go_wp2_with fail
    refine cK.out.mono ?_
    rintro e w1 ⟨rfl, hb1⟩
    have hg1 := hg.below hb1
    go_wp2_with fail
    refine (cA.out _ hg1 hb1).mono ?_
    rintro e w2 ⟨rfl, hb2⟩
    have hb12 := Bt hb1 hb2
    go_wp2_with fail
    go_ret
    exact ⟨rfl, hb12⟩
end Go.Proofs.YtakcfgmibijdnaaDoor
