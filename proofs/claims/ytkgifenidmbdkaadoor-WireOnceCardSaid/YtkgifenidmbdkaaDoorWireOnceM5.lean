/- A book of requests: out, the walk. -/
import Derived.Test.YtkgifenidmbdkaaDoorWireOnceM4
import Derived.Test.YtkgifenidmbdkaaDoorWireOnceM1
import Derived.Laws.StructEq

namespace Go.Proofs.YtkgifenidmbdkaaDoor
open Go.RowKit

set_option maxHeartbeats 800000 in
theorem wt_DeleteFunc_nil (f : FuncId) (caps : Array Value) (w : World) :
    Calls Tryd.prog 23 #[.slice none 0 0, .func (.func f) #[] caps] w fun e w' => e = .returned (.slice none 0 0) ∧ w = w' := by
  have CI := Lib.hid (wt_IndexFunc_nil (fun _ W => w = W) 0 f caps (fun _ => false) [] w rfl)
  go_enter Tryd.func23, Tryd.ntmps23
  go_wp2_with fail
  refine CI.out.mono ?_
  rintro e w1 ⟨_, h⟩
  rcases h with ⟨rfl, _, rfl⟩ | ⟨i, x, hx, _⟩
  · go_wp2_with fail
    go_ret
    exact ⟨rfl, rfl⟩
  · simp at hx
theorem BookAt.setL {w : World} {base b last g : Nat} {l : List Wt} {v : Value} (h : BookAt w base b l last) (hz : w.heap[g]? = some (.cells #[v] 33 (0, 0))) (u : Value) : BookAt (w.setCell ⟨g, 0, none⟩ u) base b l last := by
  obtain ⟨x, h1, h2, h3, h4⟩ := h
  refine ⟨x, h1, (Below.heap_setCell w ⟨g, 0, none⟩ _ b ?_).trans h2, h3.setOther ?_ _, h4⟩
  · show b ≠ g
    rintro rfl
    rw [hz] at h2
    injection h2 with h2
    injection h2 with _ h2
    cases h2
  · intro e
    rcases h3.2 with ⟨e0, _⟩ | ⟨k, cap, cur, e0, _, hk, _⟩
    · rw [e0] at e; cases e
    · rw [e0] at e
      injection e with e
      subst e
      rw [hz] at hk
      injection hk with hk
      injection hk with _ hk
      cases hk
def OutPost (base b last : Nat) (P : Wt → Bool) (l : List Wt) (w : World) (e : Ending) (w' : World) : Prop := ∃ v, e = .returned v ∧ OwnR w' w.heap.size v ((l.filter P).map (·.r)) ∧ BookAt w' base b (l.filter fun x => !P x) last ∧ Below base w w'
theorem results_sl1 {fn : Func} {p : Tmp} {tmps : Array Value} {w : World} {g : Nat} {v : Value} (h : fn.results = #[.cell p 33]) (hp : tmps.getD p undef = .pointer (some ⟨g, 0, none⟩)) (hg : (loadVar 33 ⟨g, 0, none⟩).run Tryd.prog w = .ok v w) :
    (results fn tmps).run Tryd.prog w = .ok v w := by
  have hp' : tmps[p]?.getD undef = .pointer (some ⟨g, 0, none⟩) := by simpa using hp
  simp [results, h, hp', asAddr, Result.andThen, hg, Sem.run_bind]
set_option maxHeartbeats 3200000 in
set_option maxRecDepth 100000 in
theorem book_out (b base last : Nat) (l : List Wt) (f : FuncId) (caps : Array Value) (P : Wt → Bool) (w : World) (h : BookAt w base b l last) (hl : l.length ≤ 1000) (eg : ∀ args w, (callFunc f args).run Tryd.prog w = .ok (.enter f args) w) (hT : ∀ R, R < w.heap.size → (∃ c, w.heap[R]? = some (.cells c 53 (0, 0))) → TestO w R f caps P l) :
    Calls Tryd.prog 13 #[.pointer (some ⟨b, 0, none⟩), .func (.func f) #[] caps] w (OutPost base b last P l w) := by
  obtain ⟨v, c0, _, f0, _, hbw, hbb, hown, hvb⟩ := h.cell0
  obtain ⟨v', _, hv2, hv3, _⟩ := h
  obtain rfl : v' = v := by
    have := (cell_of_row _ _ 0 _ _ _ hv2).symm.trans c0
    simpa using this
  obtain ⟨va, vc, rfl⟩ : ∃ a c, v' = .slice a l.length c := by
    rcases hown.cases with ⟨rfl, rfl⟩ | ⟨g, cap, rfl, _⟩
    · exact ⟨_, _, rfl⟩
    · exact ⟨_, _, rfl⟩
  have ha1 : Below w.heap.size w (w.alloc (.cells #[.func (.func f) #[] caps] 54)) := (Below.refl _ _).alloc (Nat.le_refl _) _
  have hq1 := heap_alloc_new w (.cells #[.func (.func f) #[] caps] 54)
  have hs1 : (w.alloc (.cells #[.func (.func f) #[] caps] 54)).heap.size = w.heap.size + 1 := by simp
  obtain ⟨W1, hW1⟩ : ∃ W1, W1 = w.alloc (.cells #[.func (.func f) #[] caps] 54) := ⟨_, rfl⟩
  rw [← hW1] at ha1 hq1 hs1
  have ha2 : Below W1.heap.size W1 (W1.alloc (.cells #[.slice none 0 0] 33)) := (Below.refl _ _).alloc (Nat.le_refl _) _
  have hq2 := heap_alloc_new W1 (.cells #[.slice none 0 0] 33)
  have hs2 : (W1.alloc (.cells #[.slice none 0 0] 33)).heap.size = w.heap.size + 2 := by simp [hs1]
  obtain ⟨W, hW⟩ : ∃ W, W = W1.alloc (.cells #[.slice none 0 0] 33) := ⟨_, rfl⟩
  rw [← hW] at ha2 hq2 hs2
  rw [hs1] at hq2
  have hwW := Bt ha1 ha2
  have cT : W.cell? ⟨w.heap.size, 0, none⟩ = some (.func (.func f) #[] caps) := (ha2.cell (p := ⟨w.heap.size, 0, none⟩) (by show w.heap.size < _; omega)).trans ((cell_of_row _ _ 0 _ _ _ hq1).trans rfl)
  have hbW := (hwW.block b hbw).trans hv2
  have cW : W.cell? ⟨b, 0, none⟩ = some (.slice va l.length vc) := (cell_of_row _ _ 0 _ _ _ hbW).trans rfl
  have hlW : b < W.heap.size := by omega
  rw [hW1] at hW
  have HW := Lib.hid hW
  have egO := enters_of Tryd.func24 (by kernel_rfl) rfl
  have HQ2 := Lib.hid hq2
  have HBW := Lib.hid hbW
  have HWW := Lib.hid hwW
  have hlow : Below base w W := hwW.mono (by omega)
  rcases hown.cases with ⟨e, rfl⟩ | ⟨R, cap, e, hRb, hcap, hrow⟩
  · have CD := Lib.hid (wt_DeleteFunc_nil 24 #[.pointer (some ⟨w.heap.size, 0, none⟩), .pointer (some ⟨w.heap.size + 1, 0, none⟩)] W)
    injection e with e1 e2 e3
    subst e1 e3
    have f2 : W.frozen? ⟨b, 0, none⟩ = false := by simp [World.frozen?, hbW]
    have hb3 := book_set0 (y := .slice none 0 0) hbW
    have hL3 := (Below.heap_setCell W ⟨b, 0, none⟩ (.slice none 0 0) (w.heap.size + 1) (by show w.heap.size + 1 ≠ b; omega)).trans hq2
    have hlow3 := hlow.setCell (show base ≤ (⟨b, 0, none⟩ : Addr).block from hbb) (.slice none 0 0)
    have hbk3 : BookAt (W.setCell ⟨b, 0, none⟩ (.slice none 0 0)) base b [] last := ⟨_, hbb, hb3, OwnW.nil _ _, by simp [Value.ownBlock]⟩
    have HHT := Lib.hid hT
    clear ha1 hq1 hs1 ha2 hW1 hW egO eg hT hv3 hown hwW cT c0 f0 hb3 hq2
    go_enter Tryd.func13, Tryd.ntmps13
    go_upto_region 1 with (fail)
    rw [← HW.out]
    go_wp2_with fail
    refine CD.out.mono ?_
    rintro e w2 ⟨rfl, rfl⟩
    go_upto_region 2 with (fail)
    generalize W.setCell ⟨b, 0, none⟩ (.slice none 0 0) = w3 at *
    have cL3 : w3.cell? ⟨w.heap.size + 1, 0, none⟩ = _ := (cell_of_row _ _ 0 _ _ _ hL3).trans rfl
    have fL3 : w3.frozen? ⟨w.heap.size + 1, 0, none⟩ = false := by simp [World.frozen?, hL3]
    have hlL := lt_of_block hL3
    have hL4 := one_set0 (y := .slice none 0 0) hL3
    have hlow4 := hlow3.setCell (show base ≤ (⟨w.heap.size + 1, 0, none⟩ : Addr).block by show base ≤ w.heap.size + 1; omega) (.slice none 0 0)
    have hbk4 := hbk3.setL hL3 (.slice none 0 0)
    have HL := Lib.hid hlow4
    have HB := Lib.hid hbk4
    have hld : (loadVar 33 ⟨w.heap.size + 1, 0, none⟩).run Tryd.prog (w3.setCell ⟨w.heap.size + 1, 0, none⟩ (.slice none 0 0)) = .ok (.slice none 0 0) (w3.setCell ⟨w.heap.size + 1, 0, none⟩ (.slice none 0 0)) := by
      have hc := (cell_of_row _ _ 0 _ _ _ hL4)
      simp [loadVar, run_underlying Tryd.underlying33]
      rw [hc]; rfl
    clear hlow4 hbk4 hL4 hlow3 hbk3 hL3 f2 hbW CD
    go_wp2_with fail
    (try simp only [Exit.inBlock, Exit.then])
    refine bodyPost_ret (results_sl1 rfl rfl hld) rfl ?_
    exact ⟨_, rfl, OwnR.nil _ _, HB.out, HL.out⟩
  · injection e with e1 _ e3
    subst e1 e3
    have hRB : R ≠ b := by rintro rfl; exact hvb rfl
    have hRw := hrow.lt
    have hJ : OutJ w R f caps [] none W := ⟨below_grownBy hwW _, by omega, cT, _, hq2, OwnR.nil _ _, rfl⟩
    have CD := Lib.hid (wt_DeleteFunc w.heap.size (w.heap.size + 1) R vc (OutJ w R f caps) l 24 #[.pointer (some ⟨w.heap.size, 0, none⟩), .pointer (some ⟨w.heap.size + 1, 0, none⟩)] P [] none W (hrow.of_block (hwW.block R hRw)) hRw (by omega) hJ (by simpa using hl) hcap (outJ_kept w R f caps) outJ_below (outJ_set hRw) egO (out_fn w R f caps P l hRw eg (hT R hRw (by obtain ⟨f, ⟨c, hc, _⟩, _⟩ := hrow; exact ⟨c, hc⟩))))
    clear ha1 hq1 hs1 ha2 hq2 hW1 hW hJ egO eg hT hv3 hown hwW hrow cT hbW c0 f0
    go_enter Tryd.func13, Tryd.ntmps13
    go_upto_region 1 with (fail)
    rw [← HW.out]
    go_wp2_with fail
    refine CD.out.mono ?_
    rintro e w2 ⟨rfl, hrow2, hB2, gb2, hj1, hj2, hj3, u, hj4, hj5, hj6⟩
    obtain ⟨ua, uc, rfl⟩ := hj5.shape
    simp only [List.nil_append, List.length_map] at hj4 hj5
    have hb2 := (hj1.block b hbw (fun e => hRB (by injection e with e; exact e.symm))).trans hv2
    have d2 : w2.cell? ⟨b, 0, none⟩ = some (.slice (some ⟨R, 0, none⟩) l.length vc) := (cell_of_row _ _ 0 _ _ _ hb2).trans rfl
    have f2 : w2.frozen? ⟨b, 0, none⟩ = false := by simp [World.frozen?, hb2]
    have hbl2 := lt_of_block hb2
    have hb3 := book_set0 (y := .slice (some ⟨R, 0, none⟩) (l.filter fun x => !P x).length vc) hb2
    have hk3 : ∀ k, k ≠ b → (w2.setCell ⟨b, 0, none⟩ (.slice (some ⟨R, 0, none⟩) (l.filter fun x => !P x).length vc)).heap[k]? = w2.heap[k]? := fun k h1 => Below.heap_setCell w2 ⟨b, 0, none⟩ _ k h1
    have hrow3 := hrow2.of_block (hk3 R hRB)
    have hL3 := (hk3 (w.heap.size + 1) (by omega)).trans hj4
    have hown3 := hj5.setOther (b := b) (j := 0) (fun e => by have := hj5.lt e; omega) (.slice (some ⟨R, 0, none⟩) (l.filter fun x => !P x).length vc)
    have hlow2 : Below base w w2 := ⟨hj1.os, hj1.tape, hj1.output, hj1.size, fun k hk => hj1.block k (by omega) (fun e => by injection e; omega)⟩
    have hlow3 := hlow2.setCell (show base ≤ (⟨b, 0, none⟩ : Addr).block from hbb) (.slice (some ⟨R, 0, none⟩) (l.filter fun x => !P x).length vc)
    have hbk3 : BookAt (w2.setCell ⟨b, 0, none⟩ (.slice (some ⟨R, 0, none⟩) (l.filter fun x => !P x).length vc)) base b (l.filter fun x => !P x) last := ⟨_, hbb, hb3, hrow3.own hRb hcap, by simp [Value.ownBlock]; exact hRB⟩
    clear CD hrow2 hj1 hj3 hj4 hj5 hk3 hrow3 hlow2 hb3 hb2
    go_upto_region 2 with (fail)
    generalize w2.setCell ⟨b, 0, none⟩ (.slice (some ⟨R, 0, none⟩) (l.filter fun x => !P x).length vc) = w3 at *
    have cL3 : w3.cell? ⟨w.heap.size + 1, 0, none⟩ = _ := (cell_of_row _ _ 0 _ _ _ hL3).trans rfl
    have fL3 : w3.frozen? ⟨w.heap.size + 1, 0, none⟩ = false := by simp [World.frozen?, hL3]
    have hlL := lt_of_block hL3
    have hL4 := one_set0 (y := .slice ua (l.filter P).length uc) hL3
    have hown4 := hown3.setOther (b := w.heap.size + 1) (j := 0) (fun e => by have := hown3.lt e; omega) (.slice ua (l.filter P).length uc)
    have hlow4 := hlow3.setCell (show base ≤ (⟨w.heap.size + 1, 0, none⟩ : Addr).block by show base ≤ w.heap.size + 1; omega) (.slice ua (l.filter P).length uc)
    have hbk4 := hbk3.setL hL3 (.slice ua (l.filter P).length uc)
    have HO := Lib.hid hown4
    have HL := Lib.hid hlow4
    have HB := Lib.hid hbk4
    have cL4 := (cell_of_row _ _ 0 _ _ _ hL4)
    have hld : (loadVar 33 ⟨w.heap.size + 1, 0, none⟩).run Tryd.prog (w3.setCell ⟨w.heap.size + 1, 0, none⟩ (.slice ua (l.filter P).length uc)) = .ok (.slice ua (l.filter P).length uc) (w3.setCell ⟨w.heap.size + 1, 0, none⟩ (.slice ua (l.filter P).length uc)) := by
      have hc := (cell_of_row _ _ 0 _ _ _ hL4)
      simp [loadVar, run_underlying Tryd.underlying33]
      rw [hc]; rfl
    clear hown4 hlow4 hbk4 hL4 hown3 hlow3 hbk3 hL3 d2 f2
    go_wp2_with fail
    (try simp only [Exit.inBlock, Exit.then])
    refine bodyPost_ret (results_sl1 rfl rfl hld) rfl ?_
    exact ⟨_, rfl, (ownsRow_base HO.out (by omega)), HB.out, HL.out⟩
end Go.Proofs.YtkgifenidmbdkaaDoor

/- Of the reference of chapter 02: Has, Same. -/
namespace Go.Proofs.YtkgifenidmbdkaaDoor
open Go.RowKit

/-- Strings stand in the cells of a block, from a place on. -/
def StrRow (w : World) (b off n : Nat) (l : List ByteArray) : Prop := l.length = n ∧ ∀ i, i < n → w.cell? ⟨b, off + i, none⟩ = some (.string (l.getD i ByteArray.empty))
theorem StrRow.below {w w' : World} {b off n B : Nat} {l : List ByteArray} (h : StrRow w b off n l) (hb : Below B w w') (hg : b < B) : StrRow w' b off n l :=
  ⟨h.1, fun i hi => (hb.cell (p := ⟨b, off + i, none⟩) hg).trans (h.2 i hi)⟩
theorem StrRow.drewN {w : World} {b off n : Nat} {l : List ByteArray} (h : StrRow w b off n l) (m : Nat) : StrRow (w.drewN m) b off n l := h
theorem StrRow.of_own {w : World} {base : Nat} {e : TypeId} {g n cap : Nat} {l : List ByteArray} (h : w.ownsRow base e 1 (.slice (some ⟨g, 0, none⟩) n cap) n (l.map strV)) : StrRow w g 0 n l := by
  have hl : l.length = n := by have := h.1; simpa using this
  refine ⟨hl, fun i hi => ?_⟩
  rw [Nat.zero_add, h.cellAt i (by omega)]
  simp [strV, hl, hi]

def hasB (s : ByteArray) (c : UInt8) : Bool := (List.range s.size).any fun i => byteAt s i == c
theorem hasB_yes {s : ByteArray} {c : UInt8} {k : Nat} (hk : k < s.size) (h : byteAt s k = c) : hasB s c = true := by
  unfold hasB; rw [List.any_eq_true]; exact ⟨k, by simpa using hk, by simpa using h⟩
theorem hasB_no {s : ByteArray} {c : UInt8} (h : ∀ j, j < s.size → byteAt s j ≠ c) : hasB s c = false := by
  unfold hasB; rw [List.any_eq_false]; intro j hj; simpa using h j (by simpa using hj)

theorem str_eqB (a b : ByteArray) : (a.toList == b.toList) = decide (a = b) := by
  rw [ByteArray.toList_eq, ByteArray.toList_eq, Bool.eq_iff_iff]
  simp only [beq_iff_eq, decide_eq_true_eq, Array.toList_inj]
  exact ⟨fun h => by cases a; cases b; simp_all, fun h => by rw [h]⟩


end Go.Proofs.YtkgifenidmbdkaaDoor

/- A book of requests: Late, Drop. -/
namespace Go.Proofs.YtkgifenidmbdkaaDoor
open Go.RowKit

theorem toList_eqW (a b : ByteArray) : (a.toList = b.toList) = (a = b) := by
  have h := str_eqB a b
  rw [Bool.eq_iff_iff] at h
  simpa using h
def lateB (now : Int) (x : Wt) : Bool := decide (120 ≤ IntKind.u64.wrap (now - x.since))
def dropB (app : ByteArray) (kind : Int) (text : ByteArray) (x : Wt) : Bool := decide (x.r.app = app) && (decide (x.r.kind = kind) && decide (x.r.text = text))
theorem cell_other {a w : World} {R q : Nat} {v : Value} {c : Array Value} {t t' : TypeId} (hg : a.grownBy w (some R)) (hq : a.heap[q]? = some (.cells c t' (0, 0))) (hR : ∃ c, a.heap[R]? = some (.cells c t (0, 0))) (ht : t' ≠ t) : w.heap[q]? = some (.cells c t' (0, 0)) := by
  refine (hg.block q (lt_of_block hq) ?_).trans hq
  intro e
  injection e with e
  subst e
  obtain ⟨c2, h2⟩ := hR
  rw [hq] at h2
  injection h2 with h2
  injection h2 with _ h2
  exact ht h2
set_option maxHeartbeats 800000 in
theorem late_fn (w : World) (R : Nat) (q : Nat) (now : Int) (l : List Wt) (hq : w.heap[q]? = some (.cells #[.int .u64 now] 26 (0, 0))) (hR : ∃ c, w.heap[R]? = some (.cells c 53 (0, 0))) : TestO w R 14 #[.pointer (some ⟨q, 0, none⟩)] (lateB now) l := by
  intro W x _ hg
  have hb := cell_other (v := .bool false) hg hq hR (by decide)
  have h1 : W.cell? ⟨q, 0, none⟩ = some (.int .u64 now) := (cell_of_row _ _ 0 _ _ _ hb).trans rfl
  have hlt := lt_of_block hb
  obtain ⟨⟨x0, x1, x2, x3, x4, x5⟩, x6⟩ := x
  have hal : Below W.heap.size W (W.alloc (.cells #[.int .u64 x0, .string x1, .bool x2, .int .i64 x3, .string x4, .string x5, .int .u64 x6] 53)) := (Below.refl _ _).alloc (Nat.le_refl _) _
  show Calls Tryd.prog _ #[.agg #[.int .u64 x0, .string x1, .bool x2, .int .i64 x3, .string x4, .string x5, .int .u64 x6], .pointer (some ⟨q, 0, none⟩)] W fun e w' => e = .returned (.bool (decide (120 ≤ IntKind.u64.wrap (now - x6)))) ∧ _
  clear hb hq hR hg
  go_enter Tryd.func14, Tryd.ntmps14
  go_wp2_with fail
  go_ret
  exact ⟨rfl, hal⟩
theorem host_eq (a b : Int) (s t : ByteArray) (w : World) : (binOp .eql 28 (.agg #[.int .i64 a, .string s]) (.agg #[.int .i64 b, .string t])).run Tryd.prog w = .ok (.bool (decide (a = b) && decide (s = t))) w := by
  have u9 := Tryd.underlying9
  have u4 := Tryd.underlying3
  have z9 := Tryd.sizeOf9
  have z4 := Tryd.sizeOf3
  have a9 := Tryd.isAgg9
  have a4 := Tryd.isAgg3
  have hS : Tryd.prog.underlying 28 = some (.struct (Tryd.prog.fieldsOf 28)) := by kernel_rfl
  have hp : Tryd.prog.stoodInHeld 28 = false := by kernel_rfl
  rw [run_eql_struct, show (10000 : Nat) = 9999 + 1 from rfl, run_equalIn_agg w 9999 28 _ _ hS hp]
  simp only [Program.fieldsOf, Tryd.underlying28]
  go_simp
  simp only [toList_eqW]
  by_cases h1 : a = b
  · by_cases h2 : s = t
    · simp [h1, h2]
    · simp [h1, h2]
  · simp [h1]
set_option maxHeartbeats 800000 in
theorem book_Late (b base last : Nat) (l : List Wt) (now : Int) (w : World) (h : BookAt w base b l last) (hl : l.length ≤ 1000) :
    Calls Tryd.prog 6 #[.pointer (some ⟨b, 0, none⟩), .int .u64 now] w (OutPost base b last (lateB now) l w) := by
  have hbw0 : b < w.heap.size ∧ base ≤ b := by obtain ⟨_, _, _, _, _, hb, hbb, _⟩ := h.cell0; exact ⟨hb, hbb⟩
  have hal : Below w.heap.size w (w.alloc (.cells #[.int .u64 now] 26)) := (Below.refl _ _).alloc (Nat.le_refl _) _
  have hq := heap_alloc_new w (.cells #[.int .u64 now] 26)
  have CO := Lib.hid (book_out b base last l 14 #[.pointer (some ⟨w.heap.size, 0, none⟩)] (lateB now) _ (h.below hal) hl (enters_of Tryd.func14 (by kernel_rfl) rfl) (fun R _ hc => late_fn _ R w.heap.size now l hq hc))
  have hlow := hal.mono (show base ≤ w.heap.size by omega)
  clear h hq
  go_enter Tryd.func6, Tryd.ntmps6
  go_wp2_with fail
  refine CO.out.mono ?_
  rintro e w2 ⟨v, rfl, hown, hbk, hlow2⟩
  obtain ⟨va, vc, rfl⟩ := hown.shape
  rw [World.size_alloc] at hown
  rw [List.length_map] at hown
  have HO := Lib.hid (show OwnR w2 w.heap.size _ _ from ownsRow_base hown (by omega))
  have HB := Lib.hid hbk
  have HL := Lib.hid (hlow.trans hlow2)
  clear hown hbk hlow hlow2 CO
  go_wp2_with fail
  go_ret
  exact ⟨_, rfl, HO.out, HB.out, HL.out⟩
set_option maxHeartbeats 1600000 in
theorem drop_fn (w : World) (R q0 q1 : Nat) (app text : ByteArray) (kind : Int) (l : List Wt) (hq0 : w.heap[q0]? = some (.cells #[.string app] 9 (0, 0))) (hq1 : w.heap[q1]? = some (.cells #[.int .i64 kind, .string text] 28 (0, 0))) (hR : ∃ c, w.heap[R]? = some (.cells c 53 (0, 0))) : TestO w R 15 #[.pointer (some ⟨q0, 0, none⟩), .pointer (some ⟨q1, 0, none⟩)] (dropB app kind text) l := by
  intro W x _ hg
  have hb0 := cell_other (v := .bool false) hg hq0 hR (by decide)
  have hb1 := cell_other (v := .bool false) hg hq1 hR (by decide)
  have h0 : W.cell? ⟨q0, 0, none⟩ = some (.string app) := (cell_of_row _ _ 0 _ _ _ hb0).trans rfl
  have h1 : W.cell? ⟨q1, 0, none⟩ = some (.int .i64 kind) := (cell_of_row _ _ 0 _ _ _ hb1).trans rfl
  have h2 : W.cell? ⟨q1, 1, none⟩ = some (.string text) := (cell_of_row _ _ 1 _ _ _ hb1).trans rfl
  have hlt0 := lt_of_block hb0
  have hlt1 := lt_of_block hb1
  obtain ⟨⟨x0, x1, x2, x3, x4, x5⟩, x6⟩ := x
  have hal : Below W.heap.size W (W.alloc (.cells #[.int .u64 x0, .string x1, .bool x2, .int .i64 x3, .string x4, .string x5, .int .u64 x6] 53)) := (Below.refl _ _).alloc (Nat.le_refl _) _
  have hE := fun W => host_eq x3 kind x4 text W
  have hS := str_eqB x1 app
  show Calls Tryd.prog _ #[.agg #[.int .u64 x0, .string x1, .bool x2, .int .i64 x3, .string x4, .string x5, .int .u64 x6], .pointer (some ⟨q0, 0, none⟩), .pointer (some ⟨q1, 0, none⟩)] W fun e w' => e = .returned (.bool (decide (x1 = app) && (decide (x3 = kind) && decide (x4 = text)))) ∧ _
  clear hb0 hb1 hq0 hq1 hR hg
  generalize (decide (x3 = kind) && decide (x4 = text)) = r2 at *
  generalize decide (x1 = app) = r1 at *
  cases r1
  · go_enter Tryd.func15, Tryd.ntmps15
    go_wp2_with fail
    go_ret
    exact ⟨rfl, hal⟩
  · go_enter Tryd.func15, Tryd.ntmps15
    go_wp2_with fail
    go_ret
    exact ⟨rfl, hal⟩
def DropPost (base b last : Nat) (P : Wt → Bool) (l : List Wt) (w : World) (e : Ending) (w' : World) : Prop := e = .returned (.int .i64 ((l.filter P).length : Int)) ∧ BookAt w' base b (l.filter fun x => !P x) last ∧ Below base w w'
set_option maxHeartbeats 800000 in
theorem book_Drop (b base last : Nat) (l : List Wt) (app text : ByteArray) (kind : Int) (w : World) (h : BookAt w base b l last) (hl : l.length ≤ 1000) :
    Calls Tryd.prog 7 #[.pointer (some ⟨b, 0, none⟩), .string app, .agg #[.int .i64 kind, .string text]] w (DropPost base b last (dropB app kind text) l w) := by
  have hbw0 : b < w.heap.size ∧ base ≤ b := by obtain ⟨_, _, _, _, _, hb, hbb, _⟩ := h.cell0; exact ⟨hb, hbb⟩
  have ha1 : Below w.heap.size w (w.alloc (.cells #[.string app] 9)) := (Below.refl _ _).alloc (Nat.le_refl _) _
  have hq0 := heap_alloc_new w (.cells #[.string app] 9)
  have ha2 : Below (w.alloc (.cells #[.string app] 9)).heap.size (w.alloc (.cells #[.string app] 9)) ((w.alloc (.cells #[.string app] 9)).alloc (.cells #[.int .i64 kind, .string text] 28)) := (Below.refl _ _).alloc (Nat.le_refl _) _
  have hq1 := heap_alloc_new (w.alloc (.cells #[.string app] 9)) (.cells #[.int .i64 kind, .string text] 28)
  have hq02 := (ha2.block w.heap.size (by simp)).trans hq0
  rw [World.size_alloc] at hq1
  have hal := Bt ha1 ha2
  have CO := Lib.hid (book_out b base last l 15 #[.pointer (some ⟨w.heap.size, 0, none⟩), .pointer (some ⟨w.heap.size + 1, 0, none⟩)] (dropB app kind text) _ (h.below hal) hl (enters_of Tryd.func15 (by kernel_rfl) rfl) (fun R _ hc => drop_fn _ R w.heap.size (w.heap.size + 1) app text kind l hq02 hq1 hc))
  have hlow := hal.mono (show base ≤ w.heap.size by omega)
  clear h hq0 hq1 ha1 ha2 hq02
  go_enter Tryd.func7, Tryd.ntmps7
  go_wp2_with fail
  refine CO.out.mono ?_
  rintro e w2 ⟨v, rfl, hown, hbk, hlow2⟩
  obtain ⟨va, vc, rfl⟩ := hown.shape
  have HB := Lib.hid hbk
  have HL := Lib.hid (hlow.trans hlow2)
  clear hown hbk hlow hlow2 CO
  go_wp2_with fail
  go_ret
  exact ⟨by simp, HB.out, HL.out⟩
end Go.Proofs.YtkgifenidmbdkaaDoor

/- A script's calls on a book, in memory; what stays true of a book. -/
namespace Go.Proofs.YtkgifenidmbdkaaDoor
open Go.RowKit

structure OpW where
  kind : Int
  tick : Int
  r : Rq
def OpsSl (w : World) (a : Option Addr) (l : List OpW) : Prop := ∀ (i : Nat) (x : OpW), l[i]? = some x → ∃ b off, a = some ⟨b, off, none⟩ ∧ b < w.heap.size ∧
  w.cell? ⟨b, off + i * 8, none⟩ = some (.int .i64 x.kind) ∧ w.cell? ⟨b, off + i * 8 + 1, none⟩ = some (.int .u64 x.tick) ∧ w.cell? ⟨b, off + i * 8 + 2, none⟩ = some (.int .u64 x.r.id) ∧ w.cell? ⟨b, off + i * 8 + 3, none⟩ = some (.string x.r.app) ∧
  w.cell? ⟨b, off + i * 8 + 4, none⟩ = some (.bool x.r.apple) ∧ w.cell? ⟨b, off + i * 8 + 5, none⟩ = some (.int .i64 x.r.kind) ∧ w.cell? ⟨b, off + i * 8 + 6, none⟩ = some (.string x.r.text) ∧ w.cell? ⟨b, off + i * 8 + 7, none⟩ = some (.string x.r.url)
theorem OpsSl.below {w w' : World} {a : Option Addr} {l : List OpW} (h : OpsSl w a l) (hb : Below w.heap.size w w') : OpsSl w' a l := by
  intro i x hx
  obtain ⟨b, off, e, hlt, h0, h1, h2, h3, h4, h5, h6, h7⟩ := h i x hx
  exact ⟨b, off, e, Nat.lt_of_lt_of_le hlt hb.size, (hb.cell (p := ⟨b, _, none⟩) hlt).trans h0, (hb.cell (p := ⟨b, _, none⟩) hlt).trans h1, (hb.cell (p := ⟨b, _, none⟩) hlt).trans h2, (hb.cell (p := ⟨b, _, none⟩) hlt).trans h3, (hb.cell (p := ⟨b, _, none⟩) hlt).trans h4, (hb.cell (p := ⟨b, _, none⟩) hlt).trans h5, (hb.cell (p := ⟨b, _, none⟩) hlt).trans h6, (hb.cell (p := ⟨b, _, none⟩) hlt).trans h7⟩
def IdsOk (l : List Wt) (n : Nat) : Prop := (l.map (·.r.id)).Nodup ∧ ∀ x ∈ l, 1 ≤ x.r.id ∧ x.r.id ≤ n
theorem IdsOk.sub {l l' : List Wt} {n : Nat} (h : IdsOk l n) (hs : l'.Sublist l) : IdsOk l' n := ⟨h.1.sublist (hs.map _), fun x hx => h.2 x (hs.subset hx)⟩
theorem IdsOk.nil : IdsOk [] 0 := ⟨by simp, fun x h => by cases h⟩
theorem IdsOk.ask {l : List Wt} {n : Nat} (h : IdsOk l n) (y : Wt) (hy : y.r.id = (n : Int) + 1) : IdsOk (l ++ [y]) (n + 1) := by
  refine ⟨?_, fun x hx => ?_⟩
  · rw [List.map_append, List.nodup_append]
    refine ⟨h.1, by simp, fun a ha b hb => ?_⟩
    obtain ⟨x, hx, rfl⟩ := List.mem_map.1 ha
    have h2 := h.2 x hx
    simp at hb
    subst hb
    omega
  · rcases List.mem_append.1 hx with h1 | h1
    · have := h.2 x h1; omega
    · obtain rfl : x = y := by simpa using h1
      omega
theorem erase_sub (l : List Wt) (i : Nat) : (l.take i ++ l.drop (i + 1)).Sublist l := by
  conv => rhs; rw [← List.take_append_drop i l]
  refine List.Sublist.append (List.Sublist.refl _) ?_
  rw [show l.drop (i + 1) = (l.drop i).drop 1 by rw [List.drop_drop]]
  exact List.drop_sublist _ _
theorem IdsOk.once {l : List Wt} {n i : Nat} {x : Wt} (h : IdsOk l n) (hx : l[i]? = some x) : ∀ y ∈ l.take i ++ l.drop (i + 1), y.r.id ≠ x.r.id := by
  have hi := (List.getElem?_eq_some_iff.1 hx).1
  have e : l = l.take i ++ x :: l.drop (i + 1) := by
    conv => lhs; rw [← List.take_append_drop i l]
    congr 1
    obtain ⟨_, rfl⟩ := List.getElem?_eq_some_iff.1 hx
    exact List.drop_eq_getElem_cons hi
  have hn := h.1
  rw [e, List.map_append, List.map_cons, List.nodup_append, List.nodup_cons] at hn
  intro y hy hid
  rcases List.mem_append.1 hy with h1 | h1
  · exact hn.2.2 _ (List.mem_map.2 ⟨y, h1, rfl⟩) _ (List.mem_cons_self ..) hid
  · exact hn.2.1.1 (List.mem_map.2 ⟨y, h1, hid⟩)
theorem filter_both (P : Wt → Bool) (l : List Wt) : (l.filter P).length + (l.filter fun x => !P x).length = l.length := by
  induction l with
  | nil => rfl
  | cons x l ih => cases h : P x <;> simp [h] <;> omega
theorem erase_len {l : List Wt} {i : Nat} (h : i < l.length) : (l.take i ++ l.drop (i + 1)).length + 1 = l.length := by rw [List.length_append, List.length_take, List.length_drop]; omega
end Go.Proofs.YtkgifenidmbdkaaDoor

/- A slice of one-cell elements that is read as values. -/
namespace Go.Proofs.YtkgifenidmbdkaaDoor
open Go.RowKit

/-- A slice of one-cell elements that reads as these values. -/
def RowSl (w : World) (a : Option Addr) (l : List Value) : Prop := ∀ i v, l[i]? = some v → ∃ b, a = some ⟨b, 0, none⟩ ∧ b < w.heap.size ∧ w.cell? ⟨b, i, none⟩ = some v
theorem row_sl {w : World} {base n : Nat} {e : TypeId} {v : Value} {l : List Value} (h : w.ownsRow base e 1 v n l) (hn : n = l.length) : ∃ a c, v = .slice a l.length c ∧ l.length ≤ c ∧ c ≤ maxLen ∧ RowSl w a l := by
  subst hn
  have h' := h
  rcases h.2 with ⟨e0, e1⟩ | ⟨g, cap, cur, e0, hg, hh, h1, h2, _⟩
  · refine ⟨none, 0, by rw [e0, e1], by omega, by unfold maxLen; omega, fun i c hc => ?_⟩
    have := (List.getElem?_eq_some_iff.1 hc).1
    omega
  · refine ⟨_, cap, e0, h1, h2, fun i c hc => ?_⟩
    have hlt := (List.getElem?_eq_some_iff.1 hc).1
    subst e0
    refine ⟨g, rfl, lt_of_block hh, ?_⟩
    rw [h'.cellAt i (by omega), hc]
theorem RowSl.below {w w' : World} {a : Option Addr} {l : List Value} (h : RowSl w a l) (hb : Below w.heap.size w w') : RowSl w' a l := by
  intro i v hv
  obtain ⟨b, e, hlt, h1⟩ := h i v hv
  exact ⟨b, e, Nat.lt_of_lt_of_le hlt hb.size, (hb.cell (p := ⟨b, i, none⟩) hlt).trans h1⟩
/-- .. where a newer row is written. -/
theorem RowSl.mid {w w1 w2 : World} {a : Option Addr} {l : List Value} {g : Nat} (h : RowSl w a l) (hb : Below w.heap.size w w1) (hg : w1.grownBy w2 (some g)) (hn : w.heap.size ≤ g) : RowSl w2 a l := by
  intro i v hv
  obtain ⟨b, e, hlt, h1⟩ := h i v hv
  have h2 := Nat.lt_of_lt_of_le hlt hb.size
  have hk := hg.block b h2 (fun e => by injection e with e; omega)
  exact ⟨b, e, Nat.lt_of_lt_of_le h2 hg.size, (World.cell?_of_block hk).trans ((hb.cell (p := ⟨b, i, none⟩) hlt).trans h1)⟩
end Go.Proofs.YtkgifenidmbdkaaDoor
