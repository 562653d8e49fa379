/- The reference's book: Drop. -/
import Derived.Test.YtibhohpamnpkcaaGreatDoorWirePlaysM7
import Derived.Deep.QuietTactic
import Derived.BigQuiet

namespace Go.Proofs.YtibhohpamnpkcaaGreatDoor
open Go.RowKit

theorem BookR.drewN {w : World} {base m last n : Nat} {v u : Value} {l : List Wt} (h : BookR w base m v u l last) : BookR (w.drewN n) base m v u l last := h.below (below_drewN (Below.refl _ _) n)
theorem grown_drewN {a w : World} {r : Option Nat} (h : a.grownBy w r) (n : Nat) : a.grownBy (w.drewN n) r := grown_new h (below_drewN (Below.refl _ _) n)
def RDropPost (m base last : Nat) (P : Wt → Bool) (l : List Wt) (w : World) (e : Ending) (w' : World) : Prop := e = .returned (.int .i64 ((l.filter P).length : Int)) ∧ w.grownBy w' (some m) ∧ ∃ v' u', BookR w' base m v' u' (l.filter fun x => !P x) last
set_option maxHeartbeats 6400000 in
set_option maxRecDepth 100000 in
theorem ref26_Drop (m base last : Nat) (v u : Value) (l : List Wt) (app text : ByteArray) (kind : Int) (w : World) (h : BookR w base m v u l last) (hl : l.length ≤ 1000) :
    Calls Tryz.prog 11 #[.pointer (some ⟨m, 0, none⟩), .string app, .agg #[.int .i64 kind, .string text]] w (RDropPost m base last (dropB app kind text) l w) := by
  have hal : Below w.heap.size w (w.alloc (.cells #[.int .i64 kind, .string text] 33)) := (Below.refl _ _).alloc (Nat.le_refl _) _
  have hq := heap_alloc_new w (.cells #[.int .i64 kind, .string text] 33)
  have h1 := h.below hal
  have hmw := lt_of_block h.2.1
  have hs1 : (w.alloc (.cells #[.int .i64 kind, .string text] 33)).heap.size = w.heap.size + 1 := by simp
  have hg1 : w.grownBy (w.alloc (.cells #[.int .i64 kind, .string text] 33)) (some m) := below_grownBy hal _
  obtain ⟨P, hP⟩ : ∃ P, P = dropB app kind text := ⟨_, rfl⟩
  have HP := Lib.hid hP
  have hz := seen_zero P l
  have H1 := Lib.hid h1
  have HG1 := Lib.hid hg1
  have HS1 := Lib.hid hs1
  have HZ := Lib.hid hz
  have HQ := Lib.hid hq
  rw [← hP]
  clear h1 hg1 hs1 hal hz h hq hP
  go_enter Tryz.func11, Tryz.ntmps11
  go_wp2_with fail
  go_loopg [7, 8] l.length (fun gk o x wr => ∃ (p : Nat) (v u : Value), gk = l.length - p ∧ p ≤ l.length ∧ x = .int .i64 (seenN P l p : Int) ∧ o = .int .i64 (((l.take p).filter P).length : Int) ∧ BookR wr base m v u (seenL P l p) last ∧ wr.heap[w.heap.size]? = some (.cells #[.int .i64 kind, .string text] 33 (0, 0)) ∧ w.grownBy wr (some m))
  case atStart => exact ⟨0, v, u, by omega, Nat.zero_le _, by rw [HZ.out.2]; rfl, by simp, by rw [HZ.out.1]; exact H1.out, HQ.out, HG1.out⟩
  case round =>
    obtain ⟨p, v2, u2, hgk, hpl, rfl, rfl, hbk, hqr, hgr⟩ := hrel
    subst hgk
    have HEND := Lib.hid (seen_end P l)
    have hln := seen_len (P := P) hpl
    obtain ⟨⟨va, vc, rfl⟩, ua, uc, rfl⟩ := hbk.shape
    have hmw2 := lt_of_block hbk.2.1
    have cm0 : wr.cell? ⟨m, 0, none⟩ = some (.slice va (seenL P l p).length vc) := (cell_of_row _ _ 0 _ _ _ hbk.2.1).trans rfl
    have h0 : wr.cell? ⟨w.heap.size, 0, none⟩ = some (.int .i64 kind) := (cell_of_row _ _ 0 _ _ _ hqr).trans rfl
    have h1 : wr.cell? ⟨w.heap.size, 1, none⟩ = some (.string text) := (cell_of_row _ _ 1 _ _ _ hqr).trans rfl
    have hqw := lt_of_block hqr
    have hall : ((l.take p).filter P).length ≤ 1000 := by
      have h1 := List.length_filter_le P (l.take p)
      rw [List.length_take] at h1
      omega
    by_cases hlt : p < l.length
    · have hcond : ((seenN P l p : Nat) : Int) < ((seenL P l p).length : Int) := by omega
      obtain ⟨x, hx⟩ : ∃ x, l[p]? = some x := ⟨_, List.getElem?_eq_getElem hlt⟩
      have hxs : (seenL P l p)[seenN P l p]? = some x := by rw [seen_at]; exact hx
      obtain ⟨R, cap, e, hRw, r0, r1, r2, r3, r4, r5⟩ := rq_cells hbk.2.2.1 hxs
      injection e with e1 _ e3
      subst e1 e3
      have HBK := Lib.hid hbk
      have HGR := Lib.hid hgr
      have HQR := Lib.hid hqr
      have hnl : seenN P l p < (seenL P l p).length := by omega
      have hsl : (seenL P l p).length ≤ 1000 := by
        have h1 : seenN P l p ≤ p := by
          have h2 := List.length_filter_le (fun x => !P x) (l.take p)
          rw [List.length_take] at h2
          unfold seenN
          omega
        omega
      have hkd := fun h => seen_keep (P := P) hx h
      have hdd := fun h => seen_drop (P := P) hx h
      have HKD := Lib.hid hkd
      have HDD := Lib.hid hdd
      obtain ⟨⟨x0, x1, x2, x3, x4, x5⟩, x6⟩ := x
      have hPd : P ⟨⟨x0, x1, x2, x3, x4, x5⟩, x6⟩ = (decide (x1 = app) && (decide (x3 = kind) && decide (x4 = text))) := by rw [HP.out]; rfl
      simp only at r0 r1 r2 r3 r4 r5
      have hE := fun W => host_eq x3 kind x4 text W
      have hS := str_eqB x1 app
      clear hx hxs hbk hgr hqr hkd hdd hln
      generalize hn9 : seenN P l p = n9 at *
      generalize hl9 : seenL P l p = l9 at *
      generalize hc9 : ((l.take p).filter P).length = c9 at *
      generalize (decide (x3 = kind) && decide (x4 = text)) = b2 at *
      generalize decide (x1 = app) = b1 at *
      cases b1 with
      | false =>
        obtain ⟨d1, d2, d3⟩ := HKD.out (by rw [hPd]; rfl)
        have hz1 : IntKind.i64.wrap ((n9 : Int) + 1) = (n9 : Int) + 1 := IntWalk.i64_in _ (by omega)
        have HD1 := Lib.hid d1
        have HD2 := Lib.hid d2
        have HD3 := Lib.hid (show ((l.take (p + 1)).filter P).length = c9 by rw [d3, hc9])
        clear d1 d2 d3 hn9 hl9 hPd hc9
        go_wp2_with fail
        go_quiet (fail)
        have HB := Lib.hid (HBK.out.drewN (n := nq))
        have HG := Lib.hid (grown_drewN HGR.out nq)
        have HQ2 := Lib.hid (((below_drewN (Below.refl wr.heap.size wr) nq).block w.heap.size hqw).trans HQR.out)
        go_wp2_with fail
        go_roundg (l.length - (p + 1))
        case measure => omega
        case rel => exact ⟨p + 1, _, _, rfl, by omega, by rw [HD2.out]; go_num, by rw [HD3.out], by rw [HD1.out]; exact HB.out, HQ2.out, HG.out⟩
      | true =>
        cases b2 with
        | false =>
          obtain ⟨d1, d2, d3⟩ := HKD.out (by rw [hPd]; rfl)
          have hz1 : IntKind.i64.wrap ((n9 : Int) + 1) = (n9 : Int) + 1 := IntWalk.i64_in _ (by omega)
          have HD1 := Lib.hid d1
          have HD2 := Lib.hid d2
          have HD3 := Lib.hid (show ((l.take (p + 1)).filter P).length = c9 by rw [d3, hc9])
          clear d1 d2 d3 hn9 hl9 hPd hc9
          go_wp2_with fail
          go_quiet (fail)
          have HB := Lib.hid (HBK.out.drewN (n := nq))
          have HG := Lib.hid (grown_drewN HGR.out nq)
          have HQ2 := Lib.hid (((below_drewN (Below.refl wr.heap.size wr) nq).block w.heap.size hqw).trans HQR.out)
          go_wp2_with fail
          go_roundg (l.length - (p + 1))
          case measure => omega
          case rel => exact ⟨p + 1, _, _, rfl, by omega, by rw [HD2.out]; go_num, by rw [HD3.out], by rw [HD1.out]; exact HB.out, HQ2.out, HG.out⟩
        | true =>
          obtain ⟨d1, d2, d3⟩ := HDD.out (by rw [hPd]; rfl)
          have hz1 : IntKind.i64.wrap ((c9 : Int) + 1) = (c9 : Int) + 1 := IntWalk.i64_in _ (by omega)
          have HD1 := Lib.hid d1
          have HD2 := Lib.hid d2
          have HD3 := Lib.hid (show ((l.take (p + 1)).filter P).length = c9 + 1 by rw [d3, List.length_append, hc9]; rfl)
          clear d1 d2 d3 hn9 hl9 hPd hc9
          go_wp2_with fail
          go_quiet (fail)
          have hwq := below_drewN (Below.refl wr.heap.size wr) nq
          have hB := HBK.out.drewN (n := nq)
          have hG := grown_drewN HGR.out nq
          have hQ2 := (hwq.block w.heap.size hqw).trans HQR.out
          have hsz9 := hwq.size
          have CD := Lib.hid (ref26_drop m base last n9 _ _ l9 _ hB hnl hsl)
          clear hwq hB cm0 h0 h1 r0 r1 r2 r3 r4 r5
          generalize wr.drewN nq = wq at *
          go_wp2_with fail
          refine CD.out.mono ?_
          rintro e w5 ⟨rfl, hg5, v5, u5, hbk5, _, _⟩
          have HB := Lib.hid hbk5
          have HG := Lib.hid (grown_trans' hG hg5)
          have HQ2 := Lib.hid ((hg5.block w.heap.size (by omega) (fun e => by injection e; omega)).trans hQ2)
          clear hbk5 hg5 hG hQ2 CD
          go_wp2_with fail
          go_roundg (l.length - (p + 1))
          case measure => omega
          case rel => exact ⟨p + 1, _, _, rfl, by omega, by rw [HD2.out], by rw [HD3.out]; go_num, by rw [HD1.out]; exact HB.out, HQ2.out, HG.out⟩
    · obtain rfl : p = l.length := by omega
      have hcond : ¬ ((seenN P l l.length : Nat) : Int) < ((seenL P l l.length).length : Int) := by omega
      rw [HEND.out.1] at hbk
      have HB := Lib.hid hbk
      clear hbk
      go_wp2_with fail
      go_ret
      exact ⟨by rw [← HEND.out.2]; rfl, hgr, _, _, HB.out⟩
end Go.Proofs.YtibhohpamnpkcaaGreatDoor

/- The reference's book: Ask. -/
namespace Go.Proofs.YtibhohpamnpkcaaGreatDoor
open Go.RowKit

/-- Blocks that are no book of the reference's, and no row of requests or of ticks, are as they were. -/
def TypedR (w w' : World) : Prop := ∀ (q : Nat) (c : Array Value) (t : TypeId), w.heap[q]? = some (.cells c t (0, 0)) → t ≠ 35 → t ≠ 29 → t ≠ 31 → w'.heap[q]? = some (.cells c t (0, 0))
theorem TypedR.of_below {w w' : World} (h : Below w.heap.size w w') : TypedR w w' := fun q c t hq _ _ _ => (h.block q (lt_of_block hq)).trans hq
theorem TypedR.trans {a b c : World} (h : TypedR a b) (h2 : TypedR b c) : TypedR a c := fun q x t hq h3 h4 h5 => h2 q x t (h q x t hq h3 h4 h5) h3 h4 h5
theorem TypedR.grownM {w w' : World} {m : Nat} {c : Array Value} (h : w.grownBy w' (some m)) (hm : w.heap[m]? = some (.cells c 31 (0, 0))) : TypedR w w' := fun q x t hq _ _ h5 => by
  refine (h.block q (lt_of_block hq) ?_).trans hq
  intro e
  injection e with e
  subst e
  rw [hm] at hq
  injection hq with hq
  injection hq with _ hq
  exact h5 hq.symm
theorem TypedR.setM {w : World} {m : Nat} {c : Array Value} (hm : w.heap[m]? = some (.cells c 31 (0, 0))) (j : Nat) (u : Value) : TypedR w (w.setCell ⟨m, j, none⟩ u) := fun q x t hq _ _ h5 => by
  refine (Below.heap_setCell w ⟨m, j, none⟩ u q ?_).trans hq
  show q ≠ m
  rintro rfl
  rw [hm] at hq
  injection hq with hq
  injection hq with _ hq
  exact h5 hq.symm
theorem TypedR.grownOwn {w w' : World} {base n size : Nat} {e : TypeId} {v : Value} {xs : List Value} (h : w.grownBy w' v.ownBlock) (ho : w.ownsRow base e size v n xs) (he : e = 35 ∨ e = 29) : TypedR w w' := fun q x t hq h3 h4 _ => by
  refine (h.block q (lt_of_block hq) ?_).trans hq
  intro hs
  have := own_typed ho hs.symm hq
  rcases he with he | he
  · exact h3 (by rw [← this, he])
  · exact h4 (by rw [← this, he])
theorem TypedR.setNew {w w' : World} (h : TypedR w w') {g : Nat} (hg : w.heap.size ≤ g) (cs : Array Value) : TypedR w (w'.setRow g cs) := fun q x t hq h3 h4 h5 => by
  have := lt_of_block hq
  exact (setRow_other w' g q cs (by omega)).trans (h q x t hq h3 h4 h5)
theorem book_set2' {w : World} {b : Nat} {v x z y : Value} {t : TypeId} (h : w.heap[b]? = some (.cells #[v, x, z] t (0, 0))) : (w.setCell ⟨b, 2, none⟩ y).heap[b]? = some (.cells #[v, x, y] t (0, 0)) := by simp [World.setCell, Array.getElem?_modify, h]
theorem rqs_one {w : World} {g : Nat} {r : Rq} (h : w.heap[g]? = some (.cells (rqC r).toArray 35 (0, 0))) : RqsSl w (some ⟨g, 0, none⟩) [r] := fun j u hj => ⟨_, rfl, by
  have e : rqsV [r] = rqC r := by unfold rqsV; simp
  rw [e] at hj
  rw [Addr.add_lit, Nat.zero_add, cell_of_row w g j _ _ _ h, ← hj]
  simp⟩
theorem u64s_one {w : World} {g : Nat} {n : Int} (h : w.heap[g]? = some (.cells #[.int .u64 n] 29 (0, 0))) : U64Sl w (some ⟨g, 0, none⟩) [n] := fun j u hj => ⟨_, rfl, by
  rw [Addr.add_lit, Nat.zero_add, cell_of_row w g j _ _ _ h, ← hj]
  match j with
  | 0 => rfl
  | j + 1 => simp⟩
theorem wpList_app_u64 {w : World} {ops : Array Oper} {rest : List Oper} {o : Oper} {a : Act} {Q : Exit → Act → World → Prop} (hgd : o.guard = none) (s x : Operand) (ho : o.op = .call { callee := .builtin .append, args := #[s, x], argTypes := #[28, 28] })
    (base : Nat) (v : Value) (l : List Int) (hs : a.eval s = v) (hown : OwnU w base v l) (g c : Nat) (n : Int) (hx : a.eval x = .slice (some ⟨g, 0, none⟩) 1 c) (hb : w.heap[g]? = some (.cells #[.int .u64 n] 29 (0, 0)))
    (hl : l.length ≤ 1000) (hbase : base ≤ w.heap.size)
    (h : ∀ v' w', OwnU w' base v' (l ++ [n]) → w.grownBy w' v.ownBlock → wpList Tryz.prog ops Q rest (a.put o.dst v') w') : wpList Tryz.prog ops Q (o :: rest) a w := by
  obtain ⟨i, hi, hz, hsize, hby⟩ := info_parts info_u64W
  refine wpList_append_own _ hgd s x 28 ho base 29 i _ 1 8 Tryz.underlying28 hi hz hsize hby rfl (by decide) v _ _ hs hown _ 1 c [.int .u64 n] hx rfl ?_ (by simp [Value.oneCell']) (by unfold maxLen; omega) (by omega) hbase ?_
  · intro j u hj
    rw [Addr.add_lit, Nat.zero_add, cell_of_row w g j _ _ _ hb, ← hj]
    simp
  · intro v' w' h1 h2 _
    refine h v' w' ?_ h2
    unfold OwnU
    rw [List.length_append, List.map_append]
    exact h1
def RAskPost (m base last : Nat) (l : List Wt) (r : Rq) (now : Int) (w : World) (e : Ending) (w' : World) : Prop := e = .returned (rqV { r with id := (last : Int) + 1 }) ∧ Below base w w' ∧ TypedR w w' ∧ ∃ v' u', BookR w' base m v' u' (l ++ [⟨{ r with id := (last : Int) + 1 }, now⟩]) (last + 1)
set_option maxHeartbeats 6400000 in
set_option maxRecDepth 100000 in
theorem ref26_Ask (m base last : Nat) (v u : Value) (l : List Wt) (r : Rq) (now : Int) (w : World) (h : BookR w base m v u l last) (hl : l.length ≤ 1000) (hlast : last ≤ 1000) :
    Calls Tryz.prog 17 #[.pointer (some ⟨m, 0, none⟩), rqV r, .int .u64 now] w (RAskPost m base last l r now w) := by
  obtain ⟨⟨va, vc, rfl⟩, ua, uc, rfl⟩ := h.shape
  obtain ⟨hmb, hm, hR, hU⟩ := h
  have hmw := lt_of_block hm
  have hmt := hm
  have c2 : w.cell? ⟨m, 2, none⟩ = some (.int .u64 (last : Int)) := (cell_of_row _ _ 2 _ _ _ hm).trans rfl
  have f2 : w.frozen? ⟨m, 2, none⟩ = false := by simp [World.frozen?, hm]
  obtain ⟨x0, x1, x2, x3, x4, x5⟩ := r
  have z1 : IntKind.u64.wrap ((last : Int) + 1) = (last : Int) + 1 := IntWalk.u64_in _ (by omega)
  show Calls Tryz.prog _ #[.pointer (some ⟨m, 0, none⟩), .agg #[.int .u64 x0, .string x1, .bool x2, .int .i64 x3, .string x4, .string x5], .int .u64 now] w _
  have hnv : (Value.slice va l.length vc).ownBlock ≠ some m := fun e => absurd (own_typed hR e hm) (by decide)
  have hnu : (Value.slice ua l.length uc).ownBlock ≠ some m := fun e => absurd (own_typed hU e hm) (by decide)
  have vlt : ∀ k, (Value.slice va l.length vc).ownBlock = some k → k < w.heap.size := fun k hk => (hR.lt hk).2
  have hw1 : Below base w (w.setCell ⟨m, 2, none⟩ (.int .u64 ((last : Int) + 1))) := (Below.refl base w).setCell (show base ≤ (⟨m, 2, none⟩ : Addr).block from hmb) _
  have hs1 : (w.setCell ⟨m, 2, none⟩ (.int .u64 ((last : Int) + 1))).heap.size = w.heap.size := by simp [World.setCell]
  have hm1 := book_set2' (y := .int .u64 ((last : Int) + 1)) hm
  have hR1 := hR.setOther (j := 2) hnv (.int .u64 ((last : Int) + 1))
  have hU1 := hU.setOther (j := 2) hnu (.int .u64 ((last : Int) + 1))
  have ht1 := TypedR.setM hm 2 (.int .u64 ((last : Int) + 1))
  obtain ⟨W1, hW1⟩ : ∃ W1, W1 = w.setCell ⟨m, 2, none⟩ (.int .u64 ((last : Int) + 1)) := ⟨_, rfl⟩
  rw [← hW1] at hw1 hs1 hm1 hR1 hU1 ht1
  have ha2 : Below W1.heap.size W1 (W1.alloc (.cells #[.int .u64 ((last : Int) + 1), .string x1, .bool x2, .int .i64 x3, .string x4, .string x5] 35)) := (Below.refl _ _).alloc (Nat.le_refl _) _
  have hq1 := heap_alloc_new W1 (.cells #[.int .u64 ((last : Int) + 1), .string x1, .bool x2, .int .i64 x3, .string x4, .string x5] 35)
  have hs2 : (W1.alloc (.cells #[.int .u64 ((last : Int) + 1), .string x1, .bool x2, .int .i64 x3, .string x4, .string x5] 35)).heap.size = w.heap.size + 1 := by simp [hs1]
  obtain ⟨W2, hW2⟩ : ∃ W2, W2 = W1.alloc (.cells #[.int .u64 ((last : Int) + 1), .string x1, .bool x2, .int .i64 x3, .string x4, .string x5] 35) := ⟨_, rfl⟩
  rw [← hW2] at ha2 hq1 hs2
  have ha3 : Below W2.heap.size W2 (W2.alloc (.cells #[.int .u64 0, .string ⟨#[]⟩, .bool false, .int .i64 0, .string ⟨#[]⟩, .string ⟨#[]⟩] 35)) := (Below.refl _ _).alloc (Nat.le_refl _) _
  have hq2 := heap_alloc_new W2 (.cells #[.int .u64 0, .string ⟨#[]⟩, .bool false, .int .i64 0, .string ⟨#[]⟩, .string ⟨#[]⟩] 35)
  have hs3 : (W2.alloc (.cells #[.int .u64 0, .string ⟨#[]⟩, .bool false, .int .i64 0, .string ⟨#[]⟩, .string ⟨#[]⟩] 35)).heap.size = w.heap.size + 2 := by simp [hs2]
  obtain ⟨W, hW⟩ : ∃ W, W = W2.alloc (.cells #[.int .u64 0, .string ⟨#[]⟩, .bool false, .int .i64 0, .string ⟨#[]⟩, .string ⟨#[]⟩] 35) := ⟨_, rfl⟩
  rw [← hW] at ha3 hq2 hs3
  have ha13 := Bt ha2 ha3
  have hmW := (ha13.block m (by omega)).trans hm1
  have hRW := hR1.below ha13
  have hUW : OwnU W base (.slice ua l.length uc) (l.map (·.since)) := hU1.block fun g hg => ha13.block g (hU1.lt hg).2
  have hqW1 := (ha3.block W1.heap.size (by omega)).trans hq1
  have hwW : Below base w W := hw1.trans (ha13.mono (by omega))
  have htW := ht1.trans (TypedR.of_below ha13)
  rw [hs1] at hqW1
  rw [hs2] at hq2
  rw [hW1] at hW2
  rw [hW2] at hW
  have hal0 : Below W.heap.size W (W.alloc (.cells #[.int .u64 ((last : Int) + 1), .string x1, .bool x2, .int .i64 x3, .string x4, .string x5] 35)) := (Below.refl _ _).alloc (Nat.le_refl _) _
  have hal : Below W.heap.size W (W.alloc (.cells #[.int .u64 ((last : Int) + 1), .string x1, .bool x2, .int .i64 x3, .string x4, .string x5] 35)).drew := hal0.drew
  have hblk := heap_alloc_new W (.cells #[.int .u64 ((last : Int) + 1), .string x1, .bool x2, .int .i64 x3, .string x4, .string x5] 35)
  rw [hs3] at hblk
  have hown2 := hRW.below hal
  have hsrc : RqsSl (W.alloc (.cells #[.int .u64 ((last : Int) + 1), .string x1, .bool x2, .int .i64 x3, .string x4, .string x5] 35)).drew (some ⟨w.heap.size + 2, 0, none⟩) [⟨(last : Int) + 1, x1, x2, x3, x4, x5⟩] := rqs_one hblk
  have cW : W.cell? ⟨m, 0, none⟩ = some (.slice va l.length vc) := (cell_of_row _ _ 0 _ _ _ hmW).trans rfl
  have fW : W.frozen? ⟨m, 0, none⟩ = false := by simp [World.frozen?, hmW]
  obtain ⟨k0, k1, k2, k3, k4, k5⟩ := rq_block (r := ⟨(last : Int) + 1, x1, x2, x3, x4, x5⟩) hqW1
  have hbW' : m < W.heap.size := by omega
  have hqq : w.heap.size < W.heap.size := by omega
  have cD : W.drew.cell? ⟨m, 0, none⟩ = some (.slice va l.length vc) := cW
  have cA : (W.alloc (.cells #[.int .u64 ((last : Int) + 1), .string x1, .bool x2, .int .i64 x3, .string x4, .string x5] 35)).cell? ⟨m, 0, none⟩ = some (.slice va l.length vc) := (hal0.cell (p := ⟨m, 0, none⟩) hbW').trans cW
  have hnl : (l.map (·.r)).length = l.length := by simp
  have HW := Lib.hid hW
  have HMW := Lib.hid hmW
  have HQ1 := Lib.hid hqW1
  have HQ2 := Lib.hid hq2
  have HWW := Lib.hid hwW
  have HTW := Lib.hid htW
  have HUW := Lib.hid hUW
  have HRW := Lib.hid hRW
  clear hW hW1 hW2 hw1 hs1 hm1 hR1 hU1 ht1 ha2 hq1 hs2 ha3 hq2 ha13 hmW hqW1 hwW htW hm hR hU hUW hmt
  go_enter Tryz.func17, Tryz.ntmps17
  go_upto_region 3 with (fail)
  rw [← HW.out]
  clear c2 f2
  go_cut [] (fun wx => ∃ v', wx.heap[m]? = some (.cells #[v', .slice ua l.length uc, .int .u64 ((last : Int) + 1)] 31 (0, 0)) ∧ OwnR wx base v' (l.map (·.r) ++ [⟨(last : Int) + 1, x1, x2, x3, x4, x5⟩]) ∧ OwnU wx base (.slice ua l.length uc) (l.map (·.since)) ∧ wx.heap[w.heap.size]? = some (.cells (rqC ⟨(last : Int) + 1, x1, x2, x3, x4, x5⟩).toArray 35 (0, 0)) ∧ wx.heap[w.heap.size + 1]? = some (.cells (rqC rq0).toArray 35 (0, 0)) ∧ Below base w wx ∧ TypedR w wx ∧ (∀ g, v'.ownBlock = some g → g ≠ w.heap.size + 1) ∧ w.heap.size + 2 ≤ wx.heap.size)
  case first =>
    go_region_law (refine step_rqs rfl (.tmp 23) (.tmp 25) rfl base _ (l.map (·.r)) l.length 1 (l.length + 1) hnl rfl (by simp [Act.eval, Act.put]) hown2 (some ⟨w.heap.size + 2, 0, none⟩) 1 [⟨(last : Int) + 1, x1, x2, x3, x4, x5⟩] rfl (by simp [Act.eval, Act.put]) hsrc (by omega) (by simp; omega) ?_; intro a4 c4 w4 hown4 hst4 hf4; have hbl : m < w4.heap.size := (by have := hst4.size; simp at this; omega); have mb := (hst4.block m (by simp; omega) (fun e => hnv e.symm)).trans ((hal.block m hbW').trans HMW.out); have m0 : w4.cell? ⟨m, 0, none⟩ = some (.slice va l.length vc) := (cell_of_row _ _ 0 _ _ _ mb).trans rfl; have m1 : w4.frozen? ⟨m, 0, none⟩ = false := (by simp [World.frozen?, mb]))
    all_goals
      have hne : ∀ k, w.heap.size ≤ k → some k ≠ (Value.slice va l.length vc).ownBlock := fun k hk e => by have := vlt k e.symm; omega
      have hk5 : ∀ k, k ≠ m → (w4.setCell ⟨m, 0, none⟩ (.slice a4 (l.length + 1) c4)).heap[k]? = w4.heap[k]? := fun k hk => Below.heap_setCell w4 ⟨m, 0, none⟩ _ k hk
      have hq : ∀ k, w.heap.size ≤ k → k < W.heap.size → (w4.setCell ⟨m, 0, none⟩ (.slice a4 (l.length + 1) c4)).heap[k]? = W.heap[k]? := fun k hk hk2 =>
        (hk5 k (by omega)).trans ((hst4.block k (by simp; omega) (hne k hk)).trans (hal.block k hk2))
      have h5 := book_set0' (y := .slice a4 (l.length + 1) c4) mb
      have n5 : (Value.slice a4 (l.length + 1) c4).ownBlock ≠ some m := fun e => by
        rcases hf4 m e with e' | e'
        · exact hnv e'
        · simp at e'; omega
      have hO5 := hown4.setOther (b := m) (j := 0) n5 (.slice a4 (l.length + 1) c4)
      have hU4 : OwnU w4 base (.slice ua l.length uc) (l.map (·.since)) := HUW.out.block fun g hg => (hst4.block g (by have := (HUW.out.lt hg).2; simp; omega) (fun e => by
        obtain ⟨c, hc⟩ := own_has HUW.out hg
        exact absurd (own_typed HRW.out e.symm hc) (by decide))).trans (hal.block g (HUW.out.lt hg).2)
      have hU5 := hU4.setOther (b := m) (j := 0) hnu (.slice a4 (l.length + 1) c4)
      have hQ1 := (hq w.heap.size (Nat.le_refl _) (by omega)).trans HQ1.out
      have hQ2 := (hq (w.heap.size + 1) (by omega) (by omega)).trans HQ2.out
      have hb5 := ((HWW.out.trans (hal.mono (by omega))).grown hst4 (by simp; omega) (fun k hk => (World.ownsRow.lt hown2 k hk).1)).setCell (show base ≤ (⟨m, 0, none⟩ : Addr).block from hmb) (.slice a4 (l.length + 1) c4)
      have ht5 := ((HTW.out.trans (TypedR.of_below hal)).trans (TypedR.grownOwn hst4 hown2 (.inl rfl))).trans (TypedR.setM mb 0 (.slice a4 (l.length + 1) c4))
      have hv5 : ∀ g, (Value.slice a4 (l.length + 1) c4).ownBlock = some g → g ≠ w.heap.size + 1 := fun g hg => by
        rcases hf4 g hg with e' | e'
        · have := vlt g e'; omega
        · simp at e'; omega
      have hz5 : w.heap.size + 2 ≤ (w4.setCell ⟨m, 0, none⟩ (.slice a4 (l.length + 1) c4)).heap.size := by
        have := hst4.size
        simp at this
        simp [World.setCell]
        omega
      clear hne hk5 hq hown4 hst4 hf4 hU4 mb m0 m1
      go_wp2_with fail
      go_meet
      exact ⟨_, h5, hO5, hU5, hQ1, hQ2, hb5, ht5, hv5, hz5⟩
  case rest =>
    obtain ⟨v', hm3, hR3, hU3, hq13, hq23, hb3, ht3, hv3, hs33⟩ := hcut
    clear hal0 hal hblk hown2 hsrc cW fW k0 k1 k2 k3 k4 k5 cD cA HW HMW HQ1 HQ2 HWW HTW HUW HRW hRW
    have ha0 : Below wc.heap.size wc (wc.alloc (.cells #[.int .u64 now] 29)) := (Below.refl _ _).alloc (Nat.le_refl _) _
    have hbk := heap_alloc_new wc (.cells #[.int .u64 now] 29)
    have hU4 : OwnU (wc.alloc (.cells #[.int .u64 now] 29)) base (.slice ua l.length uc) (l.map (·.since)) := hU3.block fun g hg => ha0.block g (hU3.lt hg).2
    have cW : wc.cell? ⟨m, 1, none⟩ = some (.slice ua l.length uc) := (cell_of_row _ _ 1 _ _ _ hm3).trans rfl
    have hmw3 := lt_of_block hm3
    have cA : (wc.alloc (.cells #[.int .u64 now] 29)).cell? ⟨m, 1, none⟩ = some (.slice ua l.length uc) := (ha0.cell (p := ⟨m, 1, none⟩) hmw3).trans cW
    have hnl2 : (l.map (·.since)).length = l.length := by simp
    have hls : (l.map (·.since)).length ≤ 1000 := by omega
    have hbw : base ≤ wc.heap.size := by omega
    have hbw2 : base ≤ (wc.alloc (.cells #[.int .u64 now] 29)).heap.size := by simp; omega
    have HM3 := Lib.hid hm3
    have HR3 := Lib.hid hR3
    have HU3 := Lib.hid hU3
    have HQ1 := Lib.hid hq13
    have HQ2 := Lib.hid hq23
    have HB3 := Lib.hid hb3
    have HT3 := Lib.hid ht3
    have HV3 := Lib.hid hv3
    clear hm3 hR3 hU3 hq13 hq23 hb3 ht3 hv3
    go_upto_region 5 with (refine wpList_app_u64 rfl (.tmp 33) (.tmp 35) rfl base (.slice ua l.length uc) (l.map (·.since)) rfl hU4 wc.heap.size 1 now rfl hbk hls hbw2 ?_; intro v4 w4 hown4 hst4; obtain ⟨a4, c4, e4, _⟩ := own_shape hown4; rw [List.length_append, List.length_map] at e4; subst e4; have hbl : m < w4.heap.size := (by have := hst4.size; simp at this; omega); have mb := (hst4.block m (by simp; omega) (fun e => hnu e.symm)).trans ((ha0.block m hmw3).trans HM3.out); have m0 : w4.cell? ⟨m, 1, none⟩ = some (.slice ua l.length uc) := (cell_of_row _ _ 1 _ _ _ mb).trans rfl; have m1 : w4.frozen? ⟨m, 1, none⟩ = false := (by simp [World.frozen?, mb]))
    have hne : ∀ k c, wc.heap[k]? = some (.cells c 35 (0, 0)) → some k ≠ (Value.slice ua l.length uc).ownBlock := fun k c hk e => absurd (own_typed HU3.out e.symm hk) (by decide)
    have hk5 : ∀ k, k ≠ m → (w4.setCell ⟨m, 1, none⟩ (.slice a4 (l.length + 1) c4)).heap[k]? = w4.heap[k]? := fun k hk => Below.heap_setCell w4 ⟨m, 1, none⟩ _ k hk
    have hq : ∀ k c, wc.heap[k]? = some (.cells c 35 (0, 0)) → k ≠ m → (w4.setCell ⟨m, 1, none⟩ (.slice a4 (l.length + 1) c4)).heap[k]? = some (.cells c 35 (0, 0)) := fun k c hk hm =>
      (hk5 k hm).trans ((hst4.block k (by have := lt_of_block hk; simp; omega) (hne k c hk)).trans ((ha0.block k (lt_of_block hk)).trans hk))
    have h5 := book_set1' (y := .slice a4 (l.length + 1) c4) mb
    have n5 : (Value.slice a4 (l.length + 1) c4).ownBlock ≠ some m := fun e => absurd (own_typed hown4 e mb) (by decide)
    have hO5 := hown4.setOther (b := m) (j := 1) n5 (.slice a4 (l.length + 1) c4)
    have hR5 : OwnR (w4.setCell ⟨m, 1, none⟩ (.slice a4 (l.length + 1) c4)) base v' (l.map (·.r) ++ [⟨(last : Int) + 1, x1, x2, x3, x4, x5⟩]) := HR3.out.block fun g hg => by
      obtain ⟨c, hc⟩ := own_has HR3.out hg
      exact (hq g c hc (by rintro rfl; exact absurd (own_typed HR3.out hg HM3.out) (by decide))).trans hc.symm
    have hQ1 := hq w.heap.size _ HQ1.out (by omega)
    have hQ2 := hq (w.heap.size + 1) _ HQ2.out (by omega)
    have hb5 := ((HB3.out.trans (ha0.mono hbw)).grown hst4 (by simp; omega) (fun k hk => (World.ownsRow.lt hU4 k hk).1)).setCell (show base ≤ (⟨m, 1, none⟩ : Addr).block from hmb) (.slice a4 (l.length + 1) c4)
    have ht5 := ((HT3.out.trans (TypedR.of_below ha0)).trans (TypedR.grownOwn hst4 hU4 (.inr rfl))).trans (TypedR.setM mb 1 (.slice a4 (l.length + 1) c4))
    have hu5 : ∀ g, (Value.slice a4 (l.length + 1) c4).ownBlock = some g → g ≠ w.heap.size + 1 := fun g hg e => by
      subst e
      exact absurd (own_typed hO5 hg hQ2) (by decide)
    have hBK : BookR (w4.setCell ⟨m, 1, none⟩ (.slice a4 (l.length + 1) c4)) base m v' (.slice a4 (l.length + 1) c4) (l ++ [⟨⟨(last : Int) + 1, x1, x2, x3, x4, x5⟩, now⟩]) (last + 1) := ⟨hmb, h5, by rw [List.map_append]; exact hR5, by rw [List.map_append]; exact hO5⟩
    generalize w4.setCell ⟨m, 1, none⟩ (.slice a4 (l.length + 1) c4) = w9 at *
    obtain ⟨k0, k1, k2, k3, k4, k5⟩ := rq_block (r := ⟨(last : Int) + 1, x1, x2, x3, x4, x5⟩) hQ1
    have hl9 := lt_of_block hQ1
    have HBK := Lib.hid (hBK.setRow (show m ≠ w.heap.size + 1 by omega) (fun e => HV3.out _ e rfl) (fun e => hu5 _ e rfl) (rqC ⟨(last : Int) + 1, x1, x2, x3, x4, x5⟩).toArray)
    have HB9 := Lib.hid (below_setRowW hb5 (show base ≤ w.heap.size + 1 by omega) (rqC ⟨(last : Int) + 1, x1, x2, x3, x4, x5⟩).toArray)
    have HT9 := Lib.hid (ht5.setNew (show w.heap.size ≤ w.heap.size + 1 by omega) (rqC ⟨(last : Int) + 1, x1, x2, x3, x4, x5⟩).toArray)
    clear hne hk5 hq hown4 hst4 mb m0 m1 h5 n5 hO5 hR5 hQ1 hb5 ht5 hu5 hBK hU4 hbk cA cW ha0
    go_wp2_with (refine wpList_store_rq (o := ⟨none, _, _, _, _, _⟩) rfl _ _ rfl (w.heap.size + 1) ⟨(last : Int) + 1, x1, x2, x3, x4, x5⟩ rq0 rfl rfl hQ2 ?_)
    (try simp only [Exit.inBlock, Exit.then])
    refine bodyPost_ret (results_rq1 rfl rfl (setRow_heap w9 (w.heap.size + 1) _ _ _ _ hQ2)) rfl ?_
    exact ⟨rfl, HB9.out, HT9.out, _, _, HBK.out⟩
end Go.Proofs.YtibhohpamnpkcaaGreatDoor
