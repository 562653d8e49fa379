/- A book of requests: out, the walk. -/
import Derived.Test.YtibhohpamnpkcaaGreatDoorWirePlaysM4
import Derived.Test.YtibhohpamnpkcaaGreatDoorWirePlaysM1
import Derived.Laws.StructEq

namespace Go.Proofs.YtibhohpamnpkcaaGreatDoor
open Go.RowKit

set_option maxHeartbeats 800000 in
theorem wt_DeleteFunc_nil (f : FuncId) (caps : Array Value) (w : World) :
    Calls Tryz.prog 48 #[.slice none 0 0, .func (.func f) #[] caps] w fun e w' => e = .returned (.slice none 0 0) ∧ w = w' := by
  have CI := Lib.hid (wt_IndexFunc_nil (fun _ W => w = W) 0 f caps (fun _ => false) [] w rfl)
  go_enter Tryz.func48, Tryz.ntmps48
  go_wp2_with fail
  refine CI.out.mono ?_
  rintro e w1 ⟨_, h⟩
  rcases h with ⟨rfl, _, rfl⟩ | ⟨i, x, hx, _⟩
  · go_wp2_with fail
    go_ret
    exact ⟨rfl, rfl⟩
  · simp at hx
theorem BookAt.setL {w : World} {base b last g : Nat} {l : List Wt} {v : Value} (h : BookAt w base b l last) (hz : w.heap[g]? = some (.cells #[v] 27 (0, 0))) (u : Value) : BookAt (w.setCell ⟨g, 0, none⟩ u) base b l last := by
  obtain ⟨x, h1, h2, h3, h4⟩ := h
  refine ⟨x, h1, (Below.heap_setCell w ⟨g, 0, none⟩ _ b ?_).trans h2, h3.setOther ?_ _, h4⟩
  · show b ≠ g
    rintro rfl
    rw [hz] at h2
    injection h2 with h2
    injection h2 with _ h2
    cases h2
  · intro e
    rcases h3.2 with ⟨e0, _⟩ | ⟨k, cap, cur, e0, _, hk, _⟩
    · rw [e0] at e; cases e
    · rw [e0] at e
      injection e with e
      subst e
      rw [hz] at hk
      injection hk with hk
      injection hk with _ hk
      cases hk
def OutPost (base b last : Nat) (P : Wt → Bool) (l : List Wt) (w : World) (e : Ending) (w' : World) : Prop := ∃ v, e = .returned v ∧ OwnR w' w.heap.size v ((l.filter P).map (·.r)) ∧ BookAt w' base b (l.filter fun x => !P x) last ∧ Below base w w' ∧ Typed w w'
theorem results_sl1 {fn : Func} {p : Tmp} {tmps : Array Value} {w : World} {g : Nat} {v : Value} (h : fn.results = #[.cell p 27]) (hp : tmps.getD p undef = .pointer (some ⟨g, 0, none⟩)) (hg : (loadVar 27 ⟨g, 0, none⟩).run Tryz.prog w = .ok v w) :
    (results fn tmps).run Tryz.prog w = .ok v w := by
  have hp' : tmps[p]?.getD undef = .pointer (some ⟨g, 0, none⟩) := by simpa using hp
  simp [results, h, hp', asAddr, Result.andThen, hg, Sem.run_bind]
set_option maxHeartbeats 3200000 in
set_option maxRecDepth 100000 in
theorem book_out (b base last : Nat) (l : List Wt) (f : FuncId) (caps : Array Value) (P : Wt → Bool) (w : World) (h : BookAt w base b l last) (hl : l.length ≤ 1000) (eg : ∀ args w, (callFunc f args).run Tryz.prog w = .ok (.enter f args) w) (hT : ∀ R, R < w.heap.size → (∃ c, w.heap[R]? = some (.cells c 82 (0, 0))) → TestO w R f caps P l) :
    Calls Tryz.prog 28 #[.pointer (some ⟨b, 0, none⟩), .func (.func f) #[] caps] w (OutPost base b last P l w) := by
  obtain ⟨v, c0, _, f0, _, hbw, hbb, hown, hvb⟩ := h.cell0
  obtain ⟨v', _, hv2, hv3, _⟩ := h
  obtain rfl : v' = v := by
    have := (cell_of_row _ _ 0 _ _ _ hv2).symm.trans c0
    simpa using this
  obtain ⟨va, vc, rfl⟩ : ∃ a c, v' = .slice a l.length c := by
    rcases hown.cases with ⟨rfl, rfl⟩ | ⟨g, cap, rfl, _⟩
    · exact ⟨_, _, rfl⟩
    · exact ⟨_, _, rfl⟩
  have ha1 : Below w.heap.size w (w.alloc (.cells #[.func (.func f) #[] caps] 83)) := (Below.refl _ _).alloc (Nat.le_refl _) _
  have hq1 := heap_alloc_new w (.cells #[.func (.func f) #[] caps] 83)
  have hs1 : (w.alloc (.cells #[.func (.func f) #[] caps] 83)).heap.size = w.heap.size + 1 := by simp
  obtain ⟨W1, hW1⟩ : ∃ W1, W1 = w.alloc (.cells #[.func (.func f) #[] caps] 83) := ⟨_, rfl⟩
  rw [← hW1] at ha1 hq1 hs1
  have ha2 : Below W1.heap.size W1 (W1.alloc (.cells #[.slice none 0 0] 27)) := (Below.refl _ _).alloc (Nat.le_refl _) _
  have hq2 := heap_alloc_new W1 (.cells #[.slice none 0 0] 27)
  have hs2 : (W1.alloc (.cells #[.slice none 0 0] 27)).heap.size = w.heap.size + 2 := by simp [hs1]
  obtain ⟨W, hW⟩ : ∃ W, W = W1.alloc (.cells #[.slice none 0 0] 27) := ⟨_, rfl⟩
  rw [← hW] at ha2 hq2 hs2
  rw [hs1] at hq2
  have hwW := Bt ha1 ha2
  have cT : W.cell? ⟨w.heap.size, 0, none⟩ = some (.func (.func f) #[] caps) := (ha2.cell (p := ⟨w.heap.size, 0, none⟩) (by show w.heap.size < _; omega)).trans ((cell_of_row _ _ 0 _ _ _ hq1).trans rfl)
  have hbW := (hwW.block b hbw).trans hv2
  have cW : W.cell? ⟨b, 0, none⟩ = some (.slice va l.length vc) := (cell_of_row _ _ 0 _ _ _ hbW).trans rfl
  have hlW : b < W.heap.size := by omega
  rw [hW1] at hW
  have HW := Lib.hid hW
  have egO := enters_of Tryz.func49 (by kernel_rfl) rfl
  have HQ2 := Lib.hid hq2
  have HBW := Lib.hid hbW
  have HWW := Lib.hid hwW
  have hlow : Below base w W := hwW.mono (by omega)
  rcases hown.cases with ⟨e, rfl⟩ | ⟨R, cap, e, hRb, hcap, hrow⟩
  · have CD := Lib.hid (wt_DeleteFunc_nil 49 #[.pointer (some ⟨w.heap.size, 0, none⟩), .pointer (some ⟨w.heap.size + 1, 0, none⟩)] W)
    injection e with e1 e2 e3
    subst e1 e3
    have f2 : W.frozen? ⟨b, 0, none⟩ = false := by simp [World.frozen?, hbW]
    have hb3 := book_set0 (y := .slice none 0 0) hbW
    have hL3 := (Below.heap_setCell W ⟨b, 0, none⟩ (.slice none 0 0) (w.heap.size + 1) (by show w.heap.size + 1 ≠ b; omega)).trans hq2
    have hlow3 := hlow.setCell (show base ≤ (⟨b, 0, none⟩ : Addr).block from hbb) (.slice none 0 0)
    have hty3 : Typed w (W.setCell ⟨b, 0, none⟩ (.slice none 0 0)) := (Typed.of_below hwW).trans (Typed.setBook hbW 0 (.slice none 0 0))
    have hbk3 : BookAt (W.setCell ⟨b, 0, none⟩ (.slice none 0 0)) base b [] last := ⟨_, hbb, hb3, OwnW.nil _ _, by simp [Value.ownBlock]⟩
    have HHT := Lib.hid hT
    clear ha1 hq1 hs1 ha2 hW1 hW egO eg hT hv3 hown hwW cT c0 f0 hb3 hq2
    go_enter Tryz.func28, Tryz.ntmps28
    go_upto_region 1 with (fail)
    rw [← HW.out]
    go_wp2_with fail
    refine CD.out.mono ?_
    rintro e w2 ⟨rfl, rfl⟩
    go_upto_region 2 with (fail)
    generalize W.setCell ⟨b, 0, none⟩ (.slice none 0 0) = w3 at *
    have cL3 : w3.cell? ⟨w.heap.size + 1, 0, none⟩ = _ := (cell_of_row _ _ 0 _ _ _ hL3).trans rfl
    have fL3 : w3.frozen? ⟨w.heap.size + 1, 0, none⟩ = false := by simp [World.frozen?, hL3]
    have hlL := lt_of_block hL3
    have hL4 := one_set0 (y := .slice none 0 0) hL3
    have hlow4 := hlow3.setCell (show base ≤ (⟨w.heap.size + 1, 0, none⟩ : Addr).block by show base ≤ w.heap.size + 1; omega) (.slice none 0 0)
    have hbk4 := hbk3.setL hL3 (.slice none 0 0)
    have HL := Lib.hid hlow4
    have HB := Lib.hid hbk4
    have HTY := Lib.hid (hty3.setNewCell (show w.heap.size ≤ w.heap.size + 1 by omega) 0 (.slice none 0 0))
    have hld : (loadVar 27 ⟨w.heap.size + 1, 0, none⟩).run Tryz.prog (w3.setCell ⟨w.heap.size + 1, 0, none⟩ (.slice none 0 0)) = .ok (.slice none 0 0) (w3.setCell ⟨w.heap.size + 1, 0, none⟩ (.slice none 0 0)) := by
      have hc := (cell_of_row _ _ 0 _ _ _ hL4)
      simp [loadVar, run_underlying Tryz.underlying27]
      rw [hc]; rfl
    clear hlow4 hbk4 hL4 hlow3 hbk3 hL3 f2 hbW CD hty3
    go_wp2_with fail
    (try simp only [Exit.inBlock, Exit.then])
    refine bodyPost_ret (results_sl1 rfl rfl hld) rfl ?_
    exact ⟨_, rfl, OwnR.nil _ _, HB.out, HL.out, HTY.out⟩
  · injection e with e1 _ e3
    subst e1 e3
    have hRB : R ≠ b := by rintro rfl; exact hvb rfl
    have hRw := hrow.lt
    obtain ⟨rc, hRc⟩ : ∃ c, True ∧ w.heap[R]? = some (.cells c 82 (0, 0)) := by
      obtain ⟨f, ⟨c, hc, _⟩, _⟩ := hrow
      exact ⟨c, trivial, hc⟩
    have hJ : OutJ w R f caps [] none W := ⟨below_grownBy hwW _, by omega, cT, _, hq2, OwnR.nil _ _, rfl⟩
    have CD := Lib.hid (wt_DeleteFunc w.heap.size (w.heap.size + 1) R vc (OutJ w R f caps) l 49 #[.pointer (some ⟨w.heap.size, 0, none⟩), .pointer (some ⟨w.heap.size + 1, 0, none⟩)] P [] none W (hrow.of_block (hwW.block R hRw)) hRw (by omega) hJ (by simpa using hl) hcap (outJ_kept w R f caps) outJ_below (outJ_set hRw) egO (out_fn w R f caps P l hRw eg (hT R hRw (by obtain ⟨f, ⟨c, hc, _⟩, _⟩ := hrow; exact ⟨c, hc⟩))))
    clear ha1 hq1 hs1 ha2 hq2 hW1 hW hJ egO eg hT hv3 hown hwW hrow cT hbW c0 f0
    go_enter Tryz.func28, Tryz.ntmps28
    go_upto_region 1 with (fail)
    rw [← HW.out]
    go_wp2_with fail
    refine CD.out.mono ?_
    rintro e w2 ⟨rfl, hrow2, hB2, gb2, hj1, hj2, hj3, u, hj4, hj5, hj6⟩
    obtain ⟨ua, uc, rfl⟩ := hj5.shape
    simp only [List.nil_append, List.length_map] at hj4 hj5
    have hb2 := (hj1.block b hbw (fun e => hRB (by injection e with e; exact e.symm))).trans hv2
    have d2 : w2.cell? ⟨b, 0, none⟩ = some (.slice (some ⟨R, 0, none⟩) l.length vc) := (cell_of_row _ _ 0 _ _ _ hb2).trans rfl
    have f2 : w2.frozen? ⟨b, 0, none⟩ = false := by simp [World.frozen?, hb2]
    have hbl2 := lt_of_block hb2
    have hb3 := book_set0 (y := .slice (some ⟨R, 0, none⟩) (l.filter fun x => !P x).length vc) hb2
    have hk3 : ∀ k, k ≠ b → (w2.setCell ⟨b, 0, none⟩ (.slice (some ⟨R, 0, none⟩) (l.filter fun x => !P x).length vc)).heap[k]? = w2.heap[k]? := fun k h1 => Below.heap_setCell w2 ⟨b, 0, none⟩ _ k h1
    have hrow3 := hrow2.of_block (hk3 R hRB)
    have hL3 := (hk3 (w.heap.size + 1) (by omega)).trans hj4
    have hown3 := hj5.setOther (b := b) (j := 0) (fun e => by have := hj5.lt e; omega) (.slice (some ⟨R, 0, none⟩) (l.filter fun x => !P x).length vc)
    have hlow2 : Below base w w2 := ⟨hj1.os, hj1.tape, hj1.output, hj1.size, fun k hk => hj1.block k (by omega) (fun e => by injection e; omega)⟩
    have hlow3 := hlow2.setCell (show base ≤ (⟨b, 0, none⟩ : Addr).block from hbb) (.slice (some ⟨R, 0, none⟩) (l.filter fun x => !P x).length vc)
    have hty3 : Typed w (w2.setCell ⟨b, 0, none⟩ (.slice (some ⟨R, 0, none⟩) (l.filter fun x => !P x).length vc)) := (Typed.grown hj1 hRc.2).trans (Typed.setBook hb2 0 _)
    have hbk3 : BookAt (w2.setCell ⟨b, 0, none⟩ (.slice (some ⟨R, 0, none⟩) (l.filter fun x => !P x).length vc)) base b (l.filter fun x => !P x) last := ⟨_, hbb, hb3, hrow3.own hRb hcap, by simp [Value.ownBlock]; exact hRB⟩
    clear CD hrow2 hj1 hj3 hj4 hj5 hk3 hrow3 hlow2 hb3 hb2
    go_upto_region 2 with (fail)
    generalize w2.setCell ⟨b, 0, none⟩ (.slice (some ⟨R, 0, none⟩) (l.filter fun x => !P x).length vc) = w3 at *
    have cL3 : w3.cell? ⟨w.heap.size + 1, 0, none⟩ = _ := (cell_of_row _ _ 0 _ _ _ hL3).trans rfl
    have fL3 : w3.frozen? ⟨w.heap.size + 1, 0, none⟩ = false := by simp [World.frozen?, hL3]
    have hlL := lt_of_block hL3
    have hL4 := one_set0 (y := .slice ua (l.filter P).length uc) hL3
    have hown4 := hown3.setOther (b := w.heap.size + 1) (j := 0) (fun e => by have := hown3.lt e; omega) (.slice ua (l.filter P).length uc)
    have hlow4 := hlow3.setCell (show base ≤ (⟨w.heap.size + 1, 0, none⟩ : Addr).block by show base ≤ w.heap.size + 1; omega) (.slice ua (l.filter P).length uc)
    have hbk4 := hbk3.setL hL3 (.slice ua (l.filter P).length uc)
    have HO := Lib.hid hown4
    have HL := Lib.hid hlow4
    have HB := Lib.hid hbk4
    have HTY := Lib.hid (hty3.setNewCell (show w.heap.size ≤ w.heap.size + 1 by omega) 0 (.slice ua (l.filter P).length uc))
    have cL4 := (cell_of_row _ _ 0 _ _ _ hL4)
    have hld : (loadVar 27 ⟨w.heap.size + 1, 0, none⟩).run Tryz.prog (w3.setCell ⟨w.heap.size + 1, 0, none⟩ (.slice ua (l.filter P).length uc)) = .ok (.slice ua (l.filter P).length uc) (w3.setCell ⟨w.heap.size + 1, 0, none⟩ (.slice ua (l.filter P).length uc)) := by
      have hc := (cell_of_row _ _ 0 _ _ _ hL4)
      simp [loadVar, run_underlying Tryz.underlying27]
      rw [hc]; rfl
    clear hown4 hlow4 hbk4 hL4 hown3 hlow3 hbk3 hL3 d2 f2 hty3
    go_wp2_with fail
    (try simp only [Exit.inBlock, Exit.then])
    refine bodyPost_ret (results_sl1 rfl rfl hld) rfl ?_
    exact ⟨_, rfl, (ownsRow_base HO.out (by omega)), HB.out, HL.out, HTY.out⟩
end Go.Proofs.YtibhohpamnpkcaaGreatDoor

/- Of the reference of chapter 02: Has, Same. -/
namespace Go.Proofs.YtibhohpamnpkcaaGreatDoor
open Go.RowKit

/-- Strings stand in the cells of a block, from a place on. -/
def StrRow (w : World) (b off n : Nat) (l : List ByteArray) : Prop := l.length = n ∧ ∀ i, i < n → w.cell? ⟨b, off + i, none⟩ = some (.string (l.getD i ByteArray.empty))
theorem StrRow.below {w w' : World} {b off n B : Nat} {l : List ByteArray} (h : StrRow w b off n l) (hb : Below B w w') (hg : b < B) : StrRow w' b off n l :=
  ⟨h.1, fun i hi => (hb.cell (p := ⟨b, off + i, none⟩) hg).trans (h.2 i hi)⟩
theorem StrRow.drewN {w : World} {b off n : Nat} {l : List ByteArray} (h : StrRow w b off n l) (m : Nat) : StrRow (w.drewN m) b off n l := h
theorem StrRow.of_own {w : World} {base : Nat} {e : TypeId} {g n cap : Nat} {l : List ByteArray} (h : w.ownsRow base e 1 (.slice (some ⟨g, 0, none⟩) n cap) n (l.map strV)) : StrRow w g 0 n l := by
  have hl : l.length = n := by have := h.1; simpa using this
  refine ⟨hl, fun i hi => ?_⟩
  rw [Nat.zero_add, h.cellAt i (by omega)]
  simp [strV, hl, hi]

def hasB (s : ByteArray) (c : UInt8) : Bool := (List.range s.size).any fun i => byteAt s i == c
theorem hasB_yes {s : ByteArray} {c : UInt8} {k : Nat} (hk : k < s.size) (h : byteAt s k = c) : hasB s c = true := by
  unfold hasB; rw [List.any_eq_true]; exact ⟨k, by simpa using hk, by simpa using h⟩
theorem hasB_no {s : ByteArray} {c : UInt8} (h : ∀ j, j < s.size → byteAt s j ≠ c) : hasB s c = false := by
  unfold hasB; rw [List.any_eq_false]; intro j hj; simpa using h j (by simpa using hj)

theorem str_eqB (a b : ByteArray) : (a.toList == b.toList) = decide (a = b) := by
  rw [ByteArray.toList_eq, ByteArray.toList_eq, Bool.eq_iff_iff]
  simp only [beq_iff_eq, decide_eq_true_eq, Array.toList_inj]
  exact ⟨fun h => by cases a; cases b; simp_all, fun h => by rw [h]⟩


set_option maxHeartbeats 800000 in
theorem ref_Has (s : ByteArray) (c : UInt8) (w : World) (hs : s.size ≤ 140737488351232) :
    Calls Tryz.prog 81 #[.string s, .int .u8 (c.toNat : Int)] w fun e w' => e = .returned (.bool (hasB s c)) ∧ w = w' := by
  go_enter Tryz.func81, Tryz.ntmps81
  go_wp2_with fail
  go_loop [5] (fun i => ∃ k : Nat, k ≤ s.size ∧ i = .int .i64 k ∧ ∀ j, j < k → byteAt s j ≠ c) (fun i => s.size - (intOf i).toNat)
  case atStart => exact ⟨0, Nat.zero_le _, rfl, fun j hj => by omega⟩
  case round =>
    obtain ⟨k, hk, rfl, hall⟩ := hrel
    have HA := Lib.hid hall
    clear hall
    by_cases hlt : k < s.size
    · have hb : byteAt s k = s[k] := by simp [byteAt, List.getD, hlt]; rfl
      by_cases hc : byteAt s k = c
      · have e1 := u8_eq' (hb ▸ hc)
        go_wp2_with fail
        go_ret
        exact ⟨ret_bool (hasB_yes hlt hc).symm, rfl⟩
      · have e1 := u8_ne' (hb ▸ hc)
        go_wp2_with fail
        go_round
        case rel => exact ⟨k + 1, by omega, by go_num, fun j hj => by
          by_cases hjk : j = k
          · subst hjk; exact hc
          · exact HA.out j (by omega)⟩
        case measure => simp [intOf]; omega
    · obtain rfl : k = s.size := by omega
      go_wp2_with fail
      go_ret
      exact ⟨ret_bool (hasB_no HA.out).symm, rfl⟩

end Go.Proofs.YtibhohpamnpkcaaGreatDoor

/- A book of requests: Late, Drop. -/
namespace Go.Proofs.YtibhohpamnpkcaaGreatDoor
open Go.RowKit

theorem toList_eqW (a b : ByteArray) : (a.toList = b.toList) = (a = b) := by
  have h := str_eqB a b
  rw [Bool.eq_iff_iff] at h
  simpa using h
def lateB (now : Int) (x : Wt) : Bool := decide (120 ≤ IntKind.u64.wrap (now - x.since))
def dropB (app : ByteArray) (kind : Int) (text : ByteArray) (x : Wt) : Bool := decide (x.r.app = app) && (decide (x.r.kind = kind) && decide (x.r.text = text))
theorem cell_other {a w : World} {R q : Nat} {v : Value} {c : Array Value} {t t' : TypeId} (hg : a.grownBy w (some R)) (hq : a.heap[q]? = some (.cells c t' (0, 0))) (hR : ∃ c, a.heap[R]? = some (.cells c t (0, 0))) (ht : t' ≠ t) : w.heap[q]? = some (.cells c t' (0, 0)) := by
  refine (hg.block q (lt_of_block hq) ?_).trans hq
  intro e
  injection e with e
  subst e
  obtain ⟨c2, h2⟩ := hR
  rw [hq] at h2
  injection h2 with h2
  injection h2 with _ h2
  exact ht h2
set_option maxHeartbeats 800000 in
theorem late_fn (w : World) (R : Nat) (q : Nat) (now : Int) (l : List Wt) (hq : w.heap[q]? = some (.cells #[.int .u64 now] 29 (0, 0))) (hR : ∃ c, w.heap[R]? = some (.cells c 82 (0, 0))) : TestO w R 29 #[.pointer (some ⟨q, 0, none⟩)] (lateB now) l := by
  intro W x _ hg
  have hb := cell_other (v := .bool false) hg hq hR (by decide)
  have h1 : W.cell? ⟨q, 0, none⟩ = some (.int .u64 now) := (cell_of_row _ _ 0 _ _ _ hb).trans rfl
  have hlt := lt_of_block hb
  obtain ⟨⟨x0, x1, x2, x3, x4, x5⟩, x6⟩ := x
  have hal : Below W.heap.size W (W.alloc (.cells #[.int .u64 x0, .string x1, .bool x2, .int .i64 x3, .string x4, .string x5, .int .u64 x6] 82)) := (Below.refl _ _).alloc (Nat.le_refl _) _
  show Calls Tryz.prog _ #[.agg #[.int .u64 x0, .string x1, .bool x2, .int .i64 x3, .string x4, .string x5, .int .u64 x6], .pointer (some ⟨q, 0, none⟩)] W fun e w' => e = .returned (.bool (decide (120 ≤ IntKind.u64.wrap (now - x6)))) ∧ _
  clear hb hq hR hg
  go_enter Tryz.func29, Tryz.ntmps29
  go_wp2_with fail
  go_ret
  exact ⟨rfl, hal⟩
theorem host_eq (a b : Int) (s t : ByteArray) (w : World) : (binOp .eql 33 (.agg #[.int .i64 a, .string s]) (.agg #[.int .i64 b, .string t])).run Tryz.prog w = .ok (.bool (decide (a = b) && decide (s = t))) w := by
  have u9 := Tryz.underlying9
  have u4 := Tryz.underlying3
  have z9 := Tryz.sizeOf9
  have z4 := Tryz.sizeOf3
  have a9 := Tryz.isAgg9
  have a4 := Tryz.isAgg3
  have hS : Tryz.prog.underlying 33 = some (.struct (Tryz.prog.fieldsOf 33)) := by kernel_rfl
  have hp : Tryz.prog.stoodInHeld 33 = false := by kernel_rfl
  rw [run_eql_struct, show (10000 : Nat) = 9999 + 1 from rfl, run_equalIn_agg w 9999 33 _ _ hS hp]
  simp only [Program.fieldsOf, Tryz.underlying33]
  go_simp
  simp only [toList_eqW]
  by_cases h1 : a = b
  · by_cases h2 : s = t
    · simp [h1, h2]
    · simp [h1, h2]
  · simp [h1]
set_option maxHeartbeats 800000 in
theorem book_Late (b base last : Nat) (l : List Wt) (now : Int) (w : World) (h : BookAt w base b l last) (hl : l.length ≤ 1000) :
    Calls Tryz.prog 8 #[.pointer (some ⟨b, 0, none⟩), .int .u64 now] w (OutPost base b last (lateB now) l w) := by
  have hbw0 : b < w.heap.size ∧ base ≤ b := by obtain ⟨_, _, _, _, _, hb, hbb, _⟩ := h.cell0; exact ⟨hb, hbb⟩
  have hal : Below w.heap.size w (w.alloc (.cells #[.int .u64 now] 29)) := (Below.refl _ _).alloc (Nat.le_refl _) _
  have hq := heap_alloc_new w (.cells #[.int .u64 now] 29)
  have CO := Lib.hid (book_out b base last l 29 #[.pointer (some ⟨w.heap.size, 0, none⟩)] (lateB now) _ (h.below hal) hl (enters_of Tryz.func29 (by kernel_rfl) rfl) (fun R _ hc => late_fn _ R w.heap.size now l hq hc))
  have hlow := hal.mono (show base ≤ w.heap.size by omega)
  clear h hq
  go_enter Tryz.func8, Tryz.ntmps8
  go_wp2_with fail
  refine CO.out.mono ?_
  rintro e w2 ⟨v, rfl, hown, hbk, hlow2, hty2⟩
  obtain ⟨va, vc, rfl⟩ := hown.shape
  rw [World.size_alloc] at hown
  rw [List.length_map] at hown
  have HO := Lib.hid (show OwnR w2 w.heap.size _ _ from ownsRow_base hown (by omega))
  have HB := Lib.hid hbk
  have HL := Lib.hid (hlow.trans hlow2)
  have HTY := Lib.hid ((Typed.of_below hal).trans hty2)
  clear hown hbk hlow hlow2 CO hty2
  go_wp2_with fail
  go_ret
  exact ⟨_, rfl, HO.out, HB.out, HL.out, HTY.out⟩
set_option maxHeartbeats 1600000 in
theorem drop_fn (w : World) (R q0 q1 : Nat) (app text : ByteArray) (kind : Int) (l : List Wt) (hq0 : w.heap[q0]? = some (.cells #[.string app] 9 (0, 0))) (hq1 : w.heap[q1]? = some (.cells #[.int .i64 kind, .string text] 33 (0, 0))) (hR : ∃ c, w.heap[R]? = some (.cells c 82 (0, 0))) : TestO w R 31 #[.pointer (some ⟨q0, 0, none⟩), .pointer (some ⟨q1, 0, none⟩)] (dropB app kind text) l := by
  intro W x _ hg
  have hb0 := cell_other (v := .bool false) hg hq0 hR (by decide)
  have hb1 := cell_other (v := .bool false) hg hq1 hR (by decide)
  have h0 : W.cell? ⟨q0, 0, none⟩ = some (.string app) := (cell_of_row _ _ 0 _ _ _ hb0).trans rfl
  have h1 : W.cell? ⟨q1, 0, none⟩ = some (.int .i64 kind) := (cell_of_row _ _ 0 _ _ _ hb1).trans rfl
  have h2 : W.cell? ⟨q1, 1, none⟩ = some (.string text) := (cell_of_row _ _ 1 _ _ _ hb1).trans rfl
  have hlt0 := lt_of_block hb0
  have hlt1 := lt_of_block hb1
  obtain ⟨⟨x0, x1, x2, x3, x4, x5⟩, x6⟩ := x
  have hal : Below W.heap.size W (W.alloc (.cells #[.int .u64 x0, .string x1, .bool x2, .int .i64 x3, .string x4, .string x5, .int .u64 x6] 82)) := (Below.refl _ _).alloc (Nat.le_refl _) _
  have hE := fun W => host_eq x3 kind x4 text W
  have hS := str_eqB x1 app
  show Calls Tryz.prog _ #[.agg #[.int .u64 x0, .string x1, .bool x2, .int .i64 x3, .string x4, .string x5, .int .u64 x6], .pointer (some ⟨q0, 0, none⟩), .pointer (some ⟨q1, 0, none⟩)] W fun e w' => e = .returned (.bool (decide (x1 = app) && (decide (x3 = kind) && decide (x4 = text)))) ∧ _
  clear hb0 hb1 hq0 hq1 hR hg
  generalize (decide (x3 = kind) && decide (x4 = text)) = r2 at *
  generalize decide (x1 = app) = r1 at *
  cases r1
  · go_enter Tryz.func31, Tryz.ntmps31
    go_wp2_with fail
    go_ret
    exact ⟨rfl, hal⟩
  · go_enter Tryz.func31, Tryz.ntmps31
    go_wp2_with fail
    go_ret
    exact ⟨rfl, hal⟩
def DropPost (base b last : Nat) (P : Wt → Bool) (l : List Wt) (w : World) (e : Ending) (w' : World) : Prop := e = .returned (.int .i64 ((l.filter P).length : Int)) ∧ BookAt w' base b (l.filter fun x => !P x) last ∧ Below base w w' ∧ Typed w w'
set_option maxHeartbeats 800000 in
theorem book_Drop (b base last : Nat) (l : List Wt) (app text : ByteArray) (kind : Int) (w : World) (h : BookAt w base b l last) (hl : l.length ≤ 1000) :
    Calls Tryz.prog 10 #[.pointer (some ⟨b, 0, none⟩), .string app, .agg #[.int .i64 kind, .string text]] w (DropPost base b last (dropB app kind text) l w) := by
  have hbw0 : b < w.heap.size ∧ base ≤ b := by obtain ⟨_, _, _, _, _, hb, hbb, _⟩ := h.cell0; exact ⟨hb, hbb⟩
  have ha1 : Below w.heap.size w (w.alloc (.cells #[.string app] 9)) := (Below.refl _ _).alloc (Nat.le_refl _) _
  have hq0 := heap_alloc_new w (.cells #[.string app] 9)
  have ha2 : Below (w.alloc (.cells #[.string app] 9)).heap.size (w.alloc (.cells #[.string app] 9)) ((w.alloc (.cells #[.string app] 9)).alloc (.cells #[.int .i64 kind, .string text] 33)) := (Below.refl _ _).alloc (Nat.le_refl _) _
  have hq1 := heap_alloc_new (w.alloc (.cells #[.string app] 9)) (.cells #[.int .i64 kind, .string text] 33)
  have hq02 := (ha2.block w.heap.size (by simp)).trans hq0
  rw [World.size_alloc] at hq1
  have hal := Bt ha1 ha2
  have CO := Lib.hid (book_out b base last l 31 #[.pointer (some ⟨w.heap.size, 0, none⟩), .pointer (some ⟨w.heap.size + 1, 0, none⟩)] (dropB app kind text) _ (h.below hal) hl (enters_of Tryz.func31 (by kernel_rfl) rfl) (fun R _ hc => drop_fn _ R w.heap.size (w.heap.size + 1) app text kind l hq02 hq1 hc))
  have hlow := hal.mono (show base ≤ w.heap.size by omega)
  clear h hq0 hq1 ha1 ha2 hq02
  go_enter Tryz.func10, Tryz.ntmps10
  go_wp2_with fail
  refine CO.out.mono ?_
  rintro e w2 ⟨v, rfl, hown, hbk, hlow2, hty2⟩
  obtain ⟨va, vc, rfl⟩ := hown.shape
  have HB := Lib.hid hbk
  have HL := Lib.hid (hlow.trans hlow2)
  have HTY := Lib.hid ((Typed.of_below hal).trans hty2)
  clear hown hbk hlow hlow2 CO hty2
  go_wp2_with fail
  go_ret
  exact ⟨by simp, HB.out, HL.out, HTY.out⟩
end Go.Proofs.YtibhohpamnpkcaaGreatDoor
