/- A book of requests: Take. -/
import Derived.Test.YtibhohpamnpkcaaGreatDoorWirePlaysM3

namespace Go.Proofs.YtibhohpamnpkcaaGreatDoor
open Go.RowKit

theorem FaultIs.setRq {w : World} {v n : Value} {k i : Int} {g : Nat} {cs : Array Value} (h : FaultIs w v k i n) (hz : w.heap[g]? = some (.cells cs 35 (0, 0))) (cs' : Array Value) : FaultIs (w.setRow g cs') v k i n := by
  obtain ⟨q, rfl, hq⟩ := h
  refine ⟨q, rfl, (setRow_other w g q _ ?_).trans hq⟩
  rintro rfl
  rw [hz] at hq
  injection hq with hq
  injection hq with _ hq
  cases hq
theorem BookAt.setRq {w : World} {base b last g : Nat} {l : List Wt} {cs : Array Value} (h : BookAt w base b l last) (hz : w.heap[g]? = some (.cells cs 35 (0, 0))) (cs' : Array Value) : BookAt (w.setRow g cs') base b l last := by
  obtain ⟨v, h1, h2, h3, h4⟩ := h
  refine ⟨v, h1, (setRow_other w g b _ ?_).trans h2, h3.setRowOther g ?_ cs', h4⟩
  · rintro rfl
    rw [hz] at h2
    injection h2 with h2
    injection h2 with _ h2
    cases h2
  · intro e
    rcases h3.2 with ⟨e0, _⟩ | ⟨k, cap, cur, e0, _, hk, _⟩
    · rw [e0] at e; cases e
    · rw [e0] at e
      injection e with e
      subst e
      rw [hz] at hk
      injection hk with hk
      injection hk with _ hk
      cases hk
set_option maxHeartbeats 800000 in
theorem take_fn (B q : Nat) (id : Int) (l : List Wt) (w : World) (hw : w.heap.size = B) (hq : q < B) (hc : w.cell? ⟨q, 0, none⟩ = some (.int .u64 id)) : TestW B (fun _ W => Below B w W) 33 #[.pointer (some ⟨q, 0, none⟩)] (fun x => decide (x.r.id = id)) l := by
  intro W acc x _ _ hB hJ
  have h1 := (hJ.cell (p := ⟨q, 0, none⟩) hq).trans hc
  obtain ⟨⟨x0, x1, x2, x3, x4, x5⟩, x6⟩ := x
  have hal : Below W.heap.size W (W.alloc (.cells #[.int .u64 x0, .string x1, .bool x2, .int .i64 x3, .string x4, .string x5, .int .u64 x6] 82)) := (Below.refl _ _).alloc (Nat.le_refl _) _
  have hlt : q < W.heap.size := by omega
  have HJ := Lib.hid (low_trans hJ (hal.mono hB))
  have HB := Lib.hid (hal.mono hB)
  show Calls Tryz.prog _ #[.agg #[.int .u64 x0, .string x1, .bool x2, .int .i64 x3, .string x4, .string x5, .int .u64 x6], .pointer (some ⟨q, 0, none⟩)] W _
  clear hJ hc hal hB
  go_enter Tryz.func33, Tryz.ntmps33
  go_wp2_with fail
  go_ret
  exact ⟨ret_bool (by rw [Bool.eq_iff_iff]; simp), HB.out, HJ.out⟩
/-- Blocks that are no book, and no row of one, are as they were. -/
def Typed (w w' : World) : Prop := ∀ (q : Nat) (c : Array Value) (t : TypeId), w.heap[q]? = some (.cells c t (0, 0)) → t ≠ 82 → t ≠ 79 → w'.heap[q]? = some (.cells c t (0, 0))
theorem Typed.of_below {w w' : World} (h : Below w.heap.size w w') : Typed w w' := fun q c t hq _ _ => (h.block q (lt_of_block hq)).trans hq
theorem Typed.trans {a b c : World} (h : Typed a b) (h2 : Typed b c) : Typed a c := fun q x t hq h3 h4 => h2 q x t (h q x t hq h3 h4) h3 h4
theorem Typed.grown {w w' : World} {R : Nat} {c : Array Value} (h : w.grownBy w' (some R)) (hR : w.heap[R]? = some (.cells c 82 (0, 0))) : Typed w w' := fun q x t hq h3 _ => by
  refine (h.block q (lt_of_block hq) ?_).trans hq
  intro e
  injection e with e
  subst e
  rw [hR] at hq
  injection hq with hq
  injection hq with _ hq
  exact h3 hq.symm
theorem Typed.setBook {w : World} {b : Nat} {c : Array Value} (hb : w.heap[b]? = some (.cells c 79 (0, 0))) (j : Nat) (u : Value) : Typed w (w.setCell ⟨b, j, none⟩ u) := fun q x t hq _ h4 => by
  refine (Below.heap_setCell w ⟨b, j, none⟩ u q ?_).trans hq
  show q ≠ b
  rintro rfl
  rw [hb] at hq
  injection hq with hq
  injection hq with _ hq
  exact h4 hq.symm
theorem Typed.setNew {w w' : World} (h : Typed w w') {g : Nat} (hg : w.heap.size ≤ g) (cs : Array Value) : Typed w (w'.setRow g cs) := fun q x t hq h3 h4 => by
  have := lt_of_block hq
  exact (setRow_other w' g q cs (by omega)).trans (h q x t hq h3 h4)
theorem Typed.setNewCell {w w' : World} (h : Typed w w') {g : Nat} (hg : w.heap.size ≤ g) (j : Nat) (u : Value) : Typed w (w'.setCell ⟨g, j, none⟩ u) := fun q x t hq h3 h4 => by
  have := lt_of_block hq
  exact (Below.heap_setCell w' ⟨g, j, none⟩ u q (by show q ≠ g; omega)).trans (h q x t hq h3 h4)
theorem Typed.grownW {w w' : World} {base : Nat} {v : Value} {l : List Wt} (h : w.grownBy w' v.ownBlock) (ho : OwnW w base v l) : Typed w w' := fun q x t hq h3 _ => by
  refine (h.block q (lt_of_block hq) ?_).trans hq
  intro hs
  rcases ho.2 with ⟨e0, _⟩ | ⟨k, cap, cur, e0, _, h4, _⟩
  · rw [e0] at hs; cases hs
  · rw [e0] at hs
    injection hs with hs
    subst hs
    rw [hq] at h4
    injection h4 with h4
    injection h4 with _ h4
    exact h3 h4
def TakePost (base b last : Nat) (id : Int) (l : List Wt) (w : World) (e : Ending) (w' : World) : Prop := Below base w w' ∧ Typed w w' ∧ ((∃ (i : Nat) (x : Wt), l[i]? = some x ∧ x.r.id = id ∧ (∀ y ∈ l.take i, y.r.id ≠ id) ∧ e = .returned (.tuple #[rqV x.r, .nilIface]) ∧ BookAt w' base b (l.take i ++ l.drop (i + 1)) last) ∨
  ((∀ y ∈ l, y.r.id ≠ id) ∧ ∃ v, e = .returned (.tuple #[rqV rq0, v]) ∧ IsFault w' v 30 0 ∧ BookAt w' base b l last))
set_option maxHeartbeats 6400000 in
set_option maxRecDepth 100000 in
theorem book_Take (b base last : Nat) (l : List Wt) (id : Int) (w : World) (h : BookAt w base b l last) (hl : l.length ≤ 1000) :
    Calls Tryz.prog 12 #[.pointer (some ⟨b, 0, none⟩), .int .u64 id] w (TakePost base b last id l w) := by
  have hbw0 : b < w.heap.size := by obtain ⟨_, _, _, _, _, hb, _⟩ := h.cell0; exact hb
  have ha1 : Below w.heap.size w (w.alloc (.cells #[.int .u64 id] 29)) := (Below.refl _ _).alloc (Nat.le_refl _) _
  have hq1 := heap_alloc_new w (.cells #[.int .u64 id] 29)
  have hs1 : (w.alloc (.cells #[.int .u64 id] 29)).heap.size = w.heap.size + 1 := by simp
  obtain ⟨W1, hW1⟩ : ∃ W1, W1 = w.alloc (.cells #[.int .u64 id] 29) := ⟨_, rfl⟩
  rw [← hW1] at ha1 hq1 hs1
  have ha2 : Below W1.heap.size W1 (W1.alloc (.cells #[.int .u64 0, .string ⟨#[]⟩, .bool false, .int .i64 0, .string ⟨#[]⟩, .string ⟨#[]⟩] 35)) := (Below.refl _ _).alloc (Nat.le_refl _) _
  have hq2 := heap_alloc_new W1 (.cells #[.int .u64 0, .string ⟨#[]⟩, .bool false, .int .i64 0, .string ⟨#[]⟩, .string ⟨#[]⟩] 35)
  have hs2 : (W1.alloc (.cells #[.int .u64 0, .string ⟨#[]⟩, .bool false, .int .i64 0, .string ⟨#[]⟩, .string ⟨#[]⟩] 35)).heap.size = w.heap.size + 2 := by simp [hs1]
  obtain ⟨W, hW⟩ : ∃ W, W = W1.alloc (.cells #[.int .u64 0, .string ⟨#[]⟩, .bool false, .int .i64 0, .string ⟨#[]⟩, .string ⟨#[]⟩] 35) := ⟨_, rfl⟩
  rw [← hW] at ha2 hq2 hs2
  have hqW := (ha2.block w.heap.size (by omega)).trans hq1
  have hcW : W.cell? ⟨w.heap.size, 0, none⟩ = some (.int .u64 id) := (cell_of_row _ _ 0 _ _ _ hqW).trans rfl
  rw [hs1] at hq2
  have hwW := Bt ha1 ha2
  have hbk := h.below hwW
  rw [hW1] at hW
  obtain ⟨v, c0, _, f0, _, hbW, hbb, hown, hvb⟩ := hbk.cell0
  have hTF := take_fn W.heap.size w.heap.size id l W rfl (by omega) hcW
  have HW := Lib.hid hW
  have HBK := Lib.hid hbk
  have HWW := Lib.hid hwW
  have HQ2 := Lib.hid hq2
  have eg := enters_of Tryz.func33 (by kernel_rfl) rfl
  have hI : ∃ a c, v = .slice a l.length c ∧ Calls Tryz.prog 32 #[v, .func (.func 33) #[] #[.pointer (some ⟨w.heap.size, 0, none⟩)]] W (IdxPost W.heap.size (fun _ W' => Below W.heap.size W W') (fun x => decide (x.r.id = id)) l [] W) := by
    rcases hown.cases with ⟨rfl, rfl⟩ | ⟨g, cap, rfl, hg, hcap, hrow⟩
    · exact ⟨_, _, rfl, wt_IndexFunc_nil _ _ _ _ _ _ _ (Below.refl _ _)⟩
    · exact ⟨_, _, rfl, wt_IndexFunc W.heap.size g cap _ l _ _ _ [] W hrow hrow.lt (Nat.le_refl _) (Below.refl _ _) (by omega) (by simp) eg hTF⟩
  obtain ⟨va, vc, rfl, hI⟩ := hI
  have HI := Lib.hid hI
  clear ha1 hq1 hs1 ha2 hq2 hW1 hW hqW hcW hwW hbk hTF eg hI h
  go_enter Tryz.func12, Tryz.ntmps12
  go_upto_region 1 with (fail)
  rw [← HW.out]
  go_wp2_with fail
  refine HI.out.mono ?_
  rintro e w2 ⟨hb2, hp⟩
  have hb02 : Below w.heap.size w w2 := Bt HWW.out hb2
  have hbk2 := HBK.out.below hb2
  have hz2 := (hb2.block (w.heap.size + 1) (by omega)).trans HQ2.out
  clear c0 f0 hown HI
  rcases hp with ⟨rfl, hall, _⟩ | ⟨i, x, hx, hP, hall, rfl, _⟩
  · have HALL := Lib.hid hall
    clear hall
    go_wp2_with fail
    refine (api_Fail' 30 0 _).mono ?_
    rintro e w3 ⟨v3, rfl, hf3, hb3⟩
    have hz3 := (hb3.block (w.heap.size + 1) (lt_of_block hz2)).trans hz2
    have hbk3 := hbk2.below hb3
    have hb03 := (Bt hb02 hb3).mono (show base ≤ w.heap.size by omega)
    have HF := Lib.hid (hf3.setRq hz3 (rqC rq0).toArray)
    have HB3 := Lib.hid (hbk3.setRq hz3 (rqC rq0).toArray)
    have HTY := Lib.hid ((Typed.of_below (Bt hb02 hb3)).setNew (show w.heap.size ≤ w.heap.size + 1 by omega) (rqC rq0).toArray)
    have HW3 := Lib.hid (below_setRowW hb03 (show base ≤ w.heap.size + 1 by omega) (rqC rq0).toArray)
    clear hf3 hbk3 hb03 hz2 hb02 hbk2 hb2 hb3
    go_wp2_with (refine wpList_store_rq (o := ⟨none, _, _, _, _, _⟩) rfl _ _ rfl (w.heap.size + 1) rq0 rq0 rfl rfl hz3 ?_)
    (try simp only [Exit.inBlock, Exit.then])
    refine bodyPost_ret (results_rq rfl rfl (setRow_heap w3 (w.heap.size + 1) _ _ _ _ hz3)) rfl ?_
    exact ⟨HW3.out, HTY.out, .inr ⟨fun y hy => by have := HALL.out y hy; simpa using this, _, rfl, HF.out, HB3.out⟩⟩
  · obtain ⟨v2, d0, _, g0, _, hbw2, _, hown2, hvb2⟩ := hbk2.cell0
    obtain ⟨v2', _, hv2, _, _⟩ := hbk2
    obtain rfl : v2' = v2 := by
      have := (cell_of_row _ _ 0 _ _ _ hv2).symm.trans d0
      simpa using this
    have hil := (List.getElem?_eq_some_iff.1 hx).1
    rcases hown2.cases with ⟨rfl, rfl⟩ | ⟨R, cap, rfl, hRb, hcap, hrow⟩
    · simp at hx
    obtain ⟨r0, r1, r2, r3, r4, r5, r6⟩ := hrow.cells hx
    have hRw := hrow.lt
    have hcl := hrow.len
    have hRB : R ≠ b := by
      rintro rfl
      exact hvb2 rfl
    have HX := Lib.hid hx
    have HALL := Lib.hid hall
    have HP := Lib.hid hP
    obtain ⟨⟨x0, x1, x2, x3, x4, x5⟩, x6⟩ := x
    simp only at r0 r1 r2 r3 r4 r5 r6
    have hal : Below w2.heap.size w2 (w2.alloc (.cells #[.int .u64 x0, .string x1, .bool x2, .int .i64 x3, .string x4, .string x5] 35)) := (Below.refl _ _).alloc (Nat.le_refl _) _
    have hq3 := heap_alloc_new w2 (.cells #[.int .u64 x0, .string x1, .bool x2, .int .i64 x3, .string x4, .string x5] 35)
    have hs3 : (w2.alloc (.cells #[.int .u64 x0, .string x1, .bool x2, .int .i64 x3, .string x4, .string x5] 35)).heap.size = w2.heap.size + 1 := by simp
    have hrow3 := hrow.of_block (hal.block R hRw)
    have d3 := (hal.cell (p := ⟨b, 0, none⟩) hbw2).trans d0
    have CD := Lib.hid (wt_Delete R cap i l _ hrow3 hil (by omega) hcap)
    obtain ⟨rc, hrc⟩ : ∃ c, (w2.alloc (.cells #[.int .u64 x0, .string x1, .bool x2, .int .i64 x3, .string x4, .string x5] 35)).heap[R]? = some (.cells c 82 (0, 0)) := by
      obtain ⟨f, ⟨c, hc, _⟩, _⟩ := hrow3
      exact ⟨c, hc⟩
    have hiI : (i : Int) < (l.length : Int) := by omega
    have hi0 : ¬ (i : Int) < 0 := by omega
    have z1 : IntKind.i64.wrap ((i : Int) + 1) = (i : Int) + 1 := IntWalk.i64_in _ (by omega)
    have HZ2 := Lib.hid hz2
    have HV2 := Lib.hid hv2
    have HB02 := Lib.hid hb02
    have hRq : R ≠ w.heap.size + 1 := by
      rintro rfl
      obtain ⟨f, ⟨c, hc, _⟩, _⟩ := hrow
      rw [hz2] at hc
      injection hc with hc
      injection hc with _ hc
      cases hc
    have hs2 := hb2.size
    clear hx hall hP hrow hrow3 hv2 hz2 hown2 hb2 hb02
    go_wp2_with fail
    refine CD.out.mono ?_
    rintro e w4 ⟨rfl, hrow4, hgr4⟩
    have hk : ∀ k, k < w2.heap.size + 1 → k ≠ R → w4.heap[k]? = (w2.alloc (.cells #[.int .u64 x0, .string x1, .bool x2, .int .i64 x3, .string x4, .string x5] 35)).heap[k]? := fun k h1 h2 => hgr4.block k (by omega) (fun e => h2 (by injection e))
    have hb4 := (hk b (by omega) hRB.symm).trans ((hal.block b hbw2).trans HV2.out)
    have hz4 := (hk (w.heap.size + 1) (by omega) hRq.symm).trans ((hal.block (w.heap.size + 1) (by omega)).trans HZ2.out)
    have hr4 := (hk w2.heap.size (by omega) (by omega)).trans hq3
    have d4 : w4.cell? ⟨b, 0, none⟩ = some (.slice (some ⟨R, 0, none⟩) l.length cap) := (cell_of_row _ _ 0 _ _ _ hb4).trans rfl
    have f4 : w4.frozen? ⟨b, 0, none⟩ = false := by simp [World.frozen?, hb4]
    have hbl4 := lt_of_block hb4
    have hlow : Below base w w4 := ((HB02.out.mono (show base ≤ w.heap.size by omega)).trans (hal.mono (by omega))).grown hgr4 (by omega) (fun j hj => by injection hj with hj; omega)
    have hty4 : Typed w w4 := (Typed.of_below (Bt HB02.out hal)).trans (Typed.grown hgr4 hrc)
    have HTY := Lib.hid ((hty4.trans (Typed.setBook hb4 0 (.slice (some ⟨R, 0, none⟩) (l.length - 1) cap))).setNew (show w.heap.size ≤ w.heap.size + 1 by omega) (rqC ⟨x0, x1, x2, x3, x4, x5⟩).toArray)
    have hb5 := book_set0 (y := .slice (some ⟨R, 0, none⟩) (l.length - 1) cap) hb4
    have hk5 : ∀ k, k ≠ b → (w4.setCell ⟨b, 0, none⟩ (.slice (some ⟨R, 0, none⟩) (l.length - 1) cap)).heap[k]? = w4.heap[k]? := fun k h1 => Below.heap_setCell w4 ⟨b, 0, none⟩ _ k h1
    have hrow5 := hrow4.of_block (hk5 R hRB)
    have hz5 := (hk5 (w.heap.size + 1) (by omega)).trans hz4
    have hr5 := (hk5 w2.heap.size (by omega)).trans hr4
    have hlow5 := hlow.setCell (show base ≤ (⟨b, 0, none⟩ : Addr).block from hbb) (.slice (some ⟨R, 0, none⟩) (l.length - 1) cap)
    have hbk5 : BookAt (w4.setCell ⟨b, 0, none⟩ (.slice (some ⟨R, 0, none⟩) (l.length - 1) cap)) base b (l.take i ++ l.drop (i + 1)) last := ⟨_, hbb, hb5, by
      have := hrow5.own hRb hcap
      rwa [show (l.take i ++ l.drop (i + 1)).length = l.length - 1 by rw [List.length_append, List.length_take, List.length_drop]; omega] at this, by simp [Value.ownBlock]; exact hRB⟩
    clear CD r0 r1 r2 r3 r4 r5 r6 d0 g0 d3
    go_upto_region 6 with (fail)
    generalize w4.setCell ⟨b, 0, none⟩ (.slice (some ⟨R, 0, none⟩) (l.length - 1) cap) = w5 at *
    obtain ⟨m0, m1, m2, m3, m4, m5⟩ := rq_block (r := ⟨x0, x1, x2, x3, x4, x5⟩) hr5
    have hl5 := lt_of_block hr5
    have HB5 := Lib.hid (hbk5.setRq hz5 (rqC ⟨x0, x1, x2, x3, x4, x5⟩).toArray)
    have HL5 := Lib.hid (below_setRowW hlow5 (show base ≤ w.heap.size + 1 by omega) (rqC ⟨x0, x1, x2, x3, x4, x5⟩).toArray)
    clear hk hty4 hb4 hz4 hr4 hlow hb5 hk5 hrow5 hlow5 hbk5 hr5 hrow4 hgr4 hq3 hal
    go_wp2_with (refine wpList_store_rq (o := ⟨none, _, _, _, _, _⟩) rfl _ _ rfl (w.heap.size + 1) ⟨x0, x1, x2, x3, x4, x5⟩ rq0 rfl rfl hz5 ?_)
    (try simp only [Exit.inBlock, Exit.then])
    refine bodyPost_ret (results_rq rfl rfl (setRow_heap w5 (w.heap.size + 1) _ _ _ _ hz5)) rfl ?_
    exact ⟨HL5.out, HTY.out, .inl ⟨i, _, HX.out, by have := HP.out; simpa using this, fun y hy => by have := HALL.out y hy; simpa using this, rfl, HB5.out⟩⟩
end Go.Proofs.YtibhohpamnpkcaaGreatDoor

/- A book of requests: out. -/
namespace Go.Proofs.YtibhohpamnpkcaaGreatDoor
open Go.RowKit

theorem wpList_app_rq {w : World} {ops : Array Oper} {rest : List Oper} {o : Oper} {a : Act} {Q : Exit → Act → World → Prop} (hgd : o.guard = none) (s x : Operand) (ho : o.op = .call { callee := .builtin .append, args := #[s, x], argTypes := #[27, 27] })
    (base : Nat) (v : Value) (l : List Rq) (hs : a.eval s = v) (hown : OwnR w base v l) (g c : Nat) (p : Rq) (hx : a.eval x = .slice (some ⟨g, 0, none⟩) 1 c) (hb : w.heap[g]? = some (.cells (rqC p).toArray 35 (0, 0)))
    (hl : l.length ≤ 1000) (hbase : base ≤ w.heap.size)
    (h : ∀ v' w', OwnR w' base v' (l ++ [p]) → w.grownBy w' v.ownBlock → wpList Tryz.prog ops Q rest (a.put o.dst v') w') : wpList Tryz.prog ops Q (o :: rest) a w := by
  obtain ⟨i, hi, hz, hsize, hby⟩ := info_parts info_rq
  refine wpList_append_own _ hgd s x 27 ho base 35 i _ 6 72 Tryz.underlying27 hi hz hsize hby rfl (by decide) v _ _ hs hown _ 1 c (rqC p) hx rfl ?_ (rqC_one p) (by unfold maxLen; omega) (by omega) hbase ?_
  · intro j u hj
    rw [Addr.add_lit, Nat.zero_add, cell_of_row w g j _ _ _ hb, ← hj]
    simp [rqC]
  · intro v' w' h1 h2 _
    refine h v' w' ?_ h2
    unfold OwnR
    rw [List.length_append, rqsV_app]
    have : rqsV [p] = rqC p := by unfold rqsV; simp
    rw [this]
    exact h1
theorem OwnR.lt {w : World} {base k : Nat} {v : Value} {l : List Rq} (h : OwnR w base v l) (hk : v.ownBlock = some k) : base ≤ k ∧ k < w.heap.size := World.ownsRow.lt h k hk
theorem OwnR.shape {w : World} {base : Nat} {v : Value} {l : List Rq} (h : OwnR w base v l) : ∃ a c, v = .slice a l.length c := by
  rcases h.2 with ⟨e0, e1⟩ | ⟨g, cap, cur, e0, _⟩
  · exact ⟨none, 0, by rw [e0, e1]⟩
  · exact ⟨_, _, e0⟩
theorem OwnR.setOther {w : World} {base b j : Nat} {v : Value} {l : List Rq} (h : OwnR w base v l) (hb : v.ownBlock ≠ some b) (u : Value) : OwnR (w.setCell ⟨b, j, none⟩ u) base v l := ownsRow_setCell_other h (a := ⟨b, j, none⟩) hb u
theorem one_set0 {w : World} {b : Nat} {v y : Value} {t : TypeId} (h : w.heap[b]? = some (.cells #[v] t (0, 0))) : (w.setCell ⟨b, 0, none⟩ y).heap[b]? = some (.cells #[y] t (0, 0)) := by simp [World.setCell, Array.getElem?_modify, h]
/-- What out keeps: behind the world w0 in which it was called, its test, its list. -/
def OutJ (w0 : World) (R : Nat) (f : FuncId) (caps : Array Value) (acc : List Rq) (gb : Option Nat) (W : World) : Prop :=
  w0.grownBy W (some R) ∧ w0.heap.size + 2 ≤ W.heap.size ∧ W.cell? ⟨w0.heap.size, 0, none⟩ = some (.func (.func f) #[] caps) ∧ ∃ v, W.heap[w0.heap.size + 1]? = some (.cells #[v] 27 (0, 0)) ∧ OwnR W (w0.heap.size + 2) v acc ∧ v.ownBlock = gb
theorem outJ_kept (w0 : World) (R : Nat) (f : FuncId) (caps : Array Value) : KeptG w0.heap.size (w0.heap.size + 1) (OutJ w0 R f caps) := by
  rintro acc gb W ⟨h1, h2, h3, v, h4, h5, rfl⟩
  exact ⟨by omega, by omega, fun g hg => by have := h5.lt hg; omega⟩
theorem grown_new {a w w' : World} {row : Option Nat} (h : a.grownBy w row) (hb : Below w.heap.size w w') : a.grownBy w' row :=
  ⟨hb.os.trans h.os, hb.tape.trans h.tape, hb.output.trans h.output, Nat.le_trans h.size hb.size, fun k hk hne => (hb.block k (Nat.lt_of_lt_of_le hk h.size)).trans (h.block k hk hne)⟩
theorem outJ_below {w0 : World} {R : Nat} {f : FuncId} {caps : Array Value} : ∀ acc gb W W', OutJ w0 R f caps acc gb W → Below W.heap.size W W' → OutJ w0 R f caps acc gb W' := by
  rintro acc gb W W' ⟨h1, h2, h3, v, h4, h5, h6⟩ hb
  exact ⟨grown_new h1 hb, Nat.le_trans h2 hb.size, (hb.cell (p := ⟨w0.heap.size, 0, none⟩) (by show w0.heap.size < _; omega)).trans h3, v, (hb.block _ (by omega)).trans h4, h5.below hb, h6⟩
theorem setCells_block {b : Nat} : ∀ (vs : List Value) (o : Nat) (w : World) (k : Nat), k ≠ b → (w.setCells b o vs).heap[k]? = w.heap[k]?
  | [], _, _, _, _ => rfl
  | v :: r, o, w, k, hk => (setCells_block r (o + 1) _ k hk).trans (Below.heap_setCell w ⟨b, o, none⟩ v k hk)
theorem OwnR.of_block {w w' : World} {base : Nat} {v : Value} {l : List Rq} (h : OwnR w base v l) (hb : ∀ k, base ≤ k → w'.heap[k]? = w.heap[k]?) : OwnR w' base v l := by
  refine ⟨h.1, ?_⟩
  rcases h.2 with h2 | ⟨k, cap, cur, e, h3, h4, h5⟩
  · exact .inl h2
  · exact .inr ⟨k, cap, cur, e, h3, (hb k h3).trans h4, h5⟩
theorem outJ_set {w0 : World} {R : Nat} {f : FuncId} {caps : Array Value} (hR : R < w0.heap.size) : ∀ acc gb W o vs, OutJ w0 R f caps acc gb W → OutJ w0 R f caps acc gb (W.setCells R o vs) := by
  rintro acc gb W o vs ⟨h1, h2, h3, v, h4, h5, h6⟩
  exact ⟨grown_setCells _ _ _ h1, by rw [size_setCellsW]; exact h2, (World.cell?_of_block (a := ⟨w0.heap.size, 0, none⟩) (setCells_block vs o W _ (by show w0.heap.size ≠ R; omega))).trans h3, v, (setCells_block vs o W _ (by omega)).trans h4, h5.of_block (fun k hk => setCells_block vs o W k (by omega)), h6⟩
/-- A test that out is given. -/
def TestO (w0 : World) (R : Nat) (f : FuncId) (caps : Array Value) (P : Wt → Bool) (l : List Wt) : Prop := ∀ (W : World) (x : Wt), x ∈ l → w0.grownBy W (some R) → Calls Tryz.prog f (#[wtV x] ++ caps) W fun e w' => e = .returned (.bool (P x)) ∧ Below W.heap.size W w'
set_option maxHeartbeats 3200000 in
set_option maxRecDepth 100000 in
theorem out_fn (w0 : World) (R : Nat) (f : FuncId) (caps : Array Value) (P : Wt → Bool) (l : List Wt) (hR : R < w0.heap.size) (eg : ∀ args w, (callFunc f args).run Tryz.prog w = .ok (.enter f args) w) (hT : TestO w0 R f caps P l) :
    TestG w0.heap.size (w0.heap.size + 1) (OutJ w0 R f caps) 49 #[.pointer (some ⟨w0.heap.size, 0, none⟩), .pointer (some ⟨w0.heap.size + 1, 0, none⟩)] P l := by
  intro W acc gb x hx ha hB hJ
  obtain ⟨j1, j2, j3, v, j4, j5, rfl⟩ := hJ
  have hal : Below W.heap.size W (W.alloc (.cells (wtC x).toArray 82)) := (Below.refl _ _).alloc (Nat.le_refl _) _
  have hJ1 := outJ_below acc v.ownBlock W _ ⟨j1, j2, j3, v, j4, j5, rfl⟩ hal
  have hxb := heap_alloc_new W (.cells (wtC x).toArray 82)
  have hs1 : (W.alloc (.cells (wtC x).toArray 82)).heap.size = W.heap.size + 1 := by simp
  have c0 := hJ1.2.2.1
  have CT := Lib.hid (hT _ x hx hJ1.1)
  have HJ1 := Lib.hid hJ1
  have HXB := Lib.hid hxb
  obtain ⟨⟨x0, x1, x2, x3, x4, x5⟩, x6⟩ := x
  show Calls Tryz.prog _ #[.agg #[.int .u64 x0, .string x1, .bool x2, .int .i64 x3, .string x4, .string x5, .int .u64 x6], .pointer (some ⟨w0.heap.size, 0, none⟩), .pointer (some ⟨w0.heap.size + 1, 0, none⟩)] W _
  have c00 : (W.alloc (.cells #[.int .u64 x0, .string x1, .bool x2, .int .i64 x3, .string x4, .string x5, .int .u64 x6] 82)).cell? ⟨w0.heap.size, 0, none⟩ = some (.func (.func f) #[] caps) := c0
  have hl0 : w0.heap.size < W.heap.size := by omega
  clear hT hxb hJ1 j3 j4 c0 hx
  generalize P ⟨⟨x0, x1, x2, x3, x4, x5⟩, x6⟩ = pv at CT ⊢
  go_enter Tryz.func49, Tryz.ntmps49
  go_wp2_with fail
  refine CT.out.mono ?_
  rintro e w2 ⟨rfl, hb2⟩
  have hJ2 := outJ_below _ _ _ _ HJ1.out hb2
  have hx2 := (hb2.block W.heap.size (by omega)).trans HXB.out
  have hb02 := Bt hal hb2
  obtain ⟨d0, d1, d2, d3, d4, d5, d6⟩ := wt_block hx2
  have hl2 := lt_of_block hx2
  cases pv with
  | false =>
    have HJ2 := Lib.hid hJ2
    clear hJ2 hx2 CT
    go_wp2_with fail
    go_ret
    exact ⟨rfl, ⟨hb02.mono (Nat.zero_le _), fun k hk _ _ => hb02.block k hk⟩, _, HJ2.out⟩
  | true =>
    obtain ⟨k1, k2, k3, v2, k4, k5, k6⟩ := hJ2
    have cL : w2.cell? ⟨w0.heap.size + 1, 0, none⟩ = some v2 := (cell_of_row _ _ 0 _ _ _ k4).trans rfl
    have hlL := lt_of_block k4
    obtain ⟨va, vc, rfl⟩ := k5.shape
    have hal3 : Below w2.heap.size w2 (w2.alloc (.cells #[.int .u64 x0, .string x1, .bool x2, .int .i64 x3, .string x4, .string x5] 35)) := (Below.refl _ _).alloc (Nat.le_refl _) _
    have hq3 := heap_alloc_new w2 (.cells #[.int .u64 x0, .string x1, .bool x2, .int .i64 x3, .string x4, .string x5] 35)
    have hs3 : (w2.alloc (.cells #[.int .u64 x0, .string x1, .bool x2, .int .i64 x3, .string x4, .string x5] 35)).heap.size = w2.heap.size + 1 := by simp
    have k53 := k5.below hal3
    have hbase : w0.heap.size + 2 ≤ (w2.alloc (.cells #[.int .u64 x0, .string x1, .bool x2, .int .i64 x3, .string x4, .string x5] 35)).heap.size := by omega
    have K1 := Lib.hid k1
    have K3 := Lib.hid k3
    have K4 := Lib.hid k4
    have K5 := Lib.hid k5
    clear k1 k3 k4 k5 hx2 CT
    go_wp2_with (refine wpList_app_rq rfl (.tmp 8) (.tmp 11) rfl (w0.heap.size + 2) (.slice va acc.length vc) acc rfl k53 w2.heap.size 1 ⟨x0, x1, x2, x3, x4, x5⟩ rfl hq3 ha hbase ?_; intro v4 w4 hown4 hg4; obtain ⟨a4, c4, rfl⟩ := hown4.shape; have kb : w4.heap[w0.heap.size + 1]? = _ := (hg4.block (w0.heap.size + 1) (by omega) (fun e => by have := K5.out.lt e.symm; omega)).trans ((hal3.block (w0.heap.size + 1) hlL).trans K4.out); have cL4 : w4.cell? ⟨w0.heap.size + 1, 0, none⟩ = some (.slice va acc.length vc) := (cell_of_row _ _ 0 _ _ _ kb).trans rfl; have fL4 : w4.frozen? ⟨w0.heap.size + 1, 0, none⟩ = false := by simp [World.frozen?, kb])
    have hne4 : ∀ k, k < w2.heap.size → k ≠ w0.heap.size + 1 → some k ≠ (Value.slice va acc.length vc).ownBlock → (w4.setCell ⟨w0.heap.size + 1, 0, none⟩ (.slice a4 (acc.length + 1) c4)).heap[k]? = w2.heap[k]? := fun k h1 h2 h3 =>
      (Below.heap_setCell w4 ⟨w0.heap.size + 1, 0, none⟩ _ k h2).trans ((hg4.block k (by omega) h3).trans (hal3.block k h1))
    have hb4 : Below 0 W (w4.setCell ⟨w0.heap.size + 1, 0, none⟩ (.slice a4 (acc.length + 1) c4)) :=
      (((hb02.mono (Nat.zero_le _)).trans (hal3.mono (Nat.zero_le _))).grown hg4 (Nat.zero_le _) (fun _ _ => Nat.zero_le _)).setCell (Nat.zero_le _) _
    have hsz4 := hb4.size
    have hg44 := hg4.size
    go_wp2_with fail
    go_ret
    refine ⟨rfl, ⟨hb4, fun k h1 h2 h3 => ?_⟩, (Value.slice a4 (acc.length + 1) c4).ownBlock, ?_⟩
    · rw [k6] at hne4
      exact (hne4 k (by have := hb02.size; omega) h2 h3).trans (hb02.block k h1)
    · have hb24 : Below w0.heap.size w2 (w4.setCell ⟨w0.heap.size + 1, 0, none⟩ (.slice a4 (acc.length + 1) c4)) :=
        ((hal3.mono (show w0.heap.size ≤ w2.heap.size by omega)).grown hg4 (by omega) (fun j hj => by have := K5.out.lt hj; omega)).setCell (show w0.heap.size ≤ w0.heap.size + 1 by omega) _
      have hown5 : OwnR w4 (w0.heap.size + 2) (.slice a4 (acc.length + 1) c4) (acc ++ [⟨x0, x1, x2, x3, x4, x5⟩]) := by
        have := hown4
        rwa [List.length_append] at this
      refine ⟨grown_low K1.out hb24, by omega, ?_, _, one_set0 kb, hown5.setOther (fun e => by have := hown5.lt e; omega) _, rfl⟩
      exact (World.cell?_of_block (a := ⟨w0.heap.size, 0, none⟩) (hne4 w0.heap.size (by omega) (by omega) (fun e => by have := K5.out.lt e.symm; omega))).trans K3.out
end Go.Proofs.YtibhohpamnpkcaaGreatDoor
