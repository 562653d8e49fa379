/- The reference's book: what it holds; append of any slice of the same kind, as one step. -/
import Derived.Test.YtibhohpamnpkcaaGreatDoorWirePlaysM5
import Derived.Deep.AppendSrc

namespace Go.Proofs.YtibhohpamnpkcaaGreatDoor
open Go.RowKit

def u64V (n : Int) : Value := .int .u64 n
theorem own_shape {w : World} {base n size : Nat} {e : TypeId} {v : Value} {xs : List Value} (h : w.ownsRow base e size v n xs) : ∃ a c, v = .slice a n c ∧ n ≤ c ∧ (a = none → n = 0 ∧ c = 0) := by
  rcases h.2 with ⟨e0, e1⟩ | ⟨g, cap, cur, e0, _, _, hc, _⟩
  · exact ⟨none, 0, by rw [e0, e1], by omega, fun _ => ⟨e1, rfl⟩⟩
  · exact ⟨_, _, e0, hc, fun h => by cases h⟩
theorem step_app_any {w : World} {ops : Array Oper} {o : Oper} {a : Act} {K : Act → World → Prop} {Q : Exit → Act → World → Prop} {E : Prop} (hgd : o.guard = none) (s x : Operand) (t : TypeId) (ho : o.op = .call { callee := .builtin .append, args := #[s, x], argTypes := #[t, t] })
    (base : Nat) (e : TypeId) (i : TypeInfo) (z : Value) (size bytes : Nat) (ht : Tryz.prog.underlying t = some (.slice e)) (hi : Tryz.prog.info? e = some i) (hz : i.zero = some z) (hsize : i.size = size) (hby : i.bytes = bytes) (hzs : z.cells.size = size) (hsz : 0 < size)
    (v : Value) (n : Nat) (xs : List Value) (hs : a.eval s = v) (hown : w.ownsRow base e size v n xs) (pa : Option Addr) (k c : Nat) (news : List Value) (hx : a.eval x = .slice pa k c) (hl : news.length = k * size)
    (hnews : ∀ j u, news[j]? = some u → ∃ ad, pa = some ad ∧ w.cell? (ad.add j) = some u) (h1 : ∀ u ∈ news, u.oneCell' = true) (hb1 : n + k ≤ 100000) (hb2 : bytes ≤ 1000) (hbase : base ≤ w.heap.size)
    (h : ∀ a' c' w', w'.ownsRow base e size (.slice a' (n + k) c') (n + k) (xs ++ news) → w.grownBy w' v.ownBlock → (∀ g, (Value.slice a' (n + k) c').ownBlock = some g → v.ownBlock = some g ∨ w.heap.size ≤ g) → K (a.put o.dst (.slice a' (n + k) c')) w') :
    if Region.wanted o (yielded ops a.tmps) = true then Oper.wp Tryz.prog o a w K Q else E := by
  by_cases hk : k = 0
  · subst hk
    have hw : Region.wanted o (yielded ops a.tmps) = true := by simp [Region.wanted, hgd]
    rw [if_pos hw]
    obtain rfl : news = [] := List.eq_nil_of_length_eq_zero (by omega)
    obtain ⟨va, vc, rfl, hvc, hvn⟩ := own_shape hown
    have hsrc : Src Tryz.prog i.size t (.slice pa 0 c) 0 [] w := by
      cases pa with
      | none => exact Src.ofNil w ht c
      | some ad => exact Src.ofSlice w ht ad 0 c [] (by simp) (by simp) (by simp)
    have hrun : (Builtin.append_ #[t, t] o.type #[.slice va n vc, .slice pa 0 c]).run Tryz.prog w = .ok (.slice va n vc) w := run_append_nothing w _ _ _ e i ht hi va n vc hvc _ hsrc
    unfold Oper.wp
    simp [execOp, ho, resolve, invoke, builtin, hs, hx, hrun, Result.andThen]
    exact h va vc w (by simpa using hown) (below_grownBy (Below.refl _ _) _) (fun g hg => .inl hg)
  · obtain ⟨u, hu⟩ : ∃ u, news[0]? = some u := ⟨_, List.getElem?_eq_getElem (by rw [hl]; exact Nat.mul_pos (by omega) hsz)⟩
    obtain ⟨ad, rfl, _⟩ := hnews 0 u hu
    refine step_append_lies (P := Tryz.prog) w hgd s x t ho base e i z size bytes ht hi hz hsize hby hzs hsz v n xs hs hown ad k c news hx hl (fun j u hj => by obtain ⟨ad', e', h'⟩ := hnews j u hj; cases e'; exact h') h1 (by omega) (by unfold maxLen; omega) ?_ hbase _ rfl ?_
    · have : (n + k) * bytes ≤ 100000 * 1000 := Nat.mul_le_mul hb1 hb2
      omega
    · intro g c4 w4 h2 h3 h4 h5
      refine h _ _ w4 h2 h3 (fun g' hg' => ?_)
      simp [Value.ownBlock] at hg'
      subst hg'
      rcases h4 with h4 | h4
      · exact .inl h4
      · exact .inr (by omega)
theorem info_u64W : (Tryz.prog.info? 29).map (fun i => (i.zero, i.size, i.bytes)) = some (some (.int .u64 0), 1, 8) := by kernel_rfl
def OwnU (w : World) (base : Nat) (v : Value) (l : List Int) : Prop := w.ownsRow base 29 1 v l.length (l.map u64V)
/-- A slice of requests that lies anywhere. -/
def RqsSl (w : World) (pa : Option Addr) (ys : List Rq) : Prop := ∀ j u, (rqsV ys)[j]? = some u → ∃ ad, pa = some ad ∧ w.cell? (ad.add j) = some u
def U64Sl (w : World) (pa : Option Addr) (ys : List Int) : Prop := ∀ j u, (ys.map u64V)[j]? = some u → ∃ ad, pa = some ad ∧ w.cell? (ad.add j) = some u
theorem rqsV_one (l : List Rq) : ∀ u ∈ rqsV l, u.oneCell' = true := by
  intro u hu
  unfold rqsV at hu
  obtain ⟨x, _, hx⟩ := List.mem_flatMap.1 hu
  exact rqC_one x u hx
theorem step_app_rqs {w : World} {ops : Array Oper} {o : Oper} {a : Act} {K : Act → World → Prop} {Q : Exit → Act → World → Prop} {E : Prop} (hgd : o.guard = none) (s x : Operand) (ho : o.op = .call { callee := .builtin .append, args := #[s, x], argTypes := #[27, 27] })
    (base : Nat) (v : Value) (l : List Rq) (hs : a.eval s = v) (hown : OwnR w base v l) (pa : Option Addr) (c : Nat) (ys : List Rq) (hx : a.eval x = .slice pa ys.length c) (hy : RqsSl w pa ys) (hb : l.length + ys.length ≤ 10000) (hbase : base ≤ w.heap.size)
    (h : ∀ a' c' w', OwnR w' base (.slice a' (l.length + ys.length) c') (l ++ ys) → w.grownBy w' v.ownBlock → (∀ g, (Value.slice a' (l.length + ys.length) c').ownBlock = some g → v.ownBlock = some g ∨ w.heap.size ≤ g) → K (a.put o.dst (.slice a' (l.length + ys.length) c')) w') :
    if Region.wanted o (yielded ops a.tmps) = true then Oper.wp Tryz.prog o a w K Q else E := by
  obtain ⟨i, hi, hz, hsize, hby⟩ := info_parts info_rq
  refine step_app_any hgd s x 27 ho base 35 i _ 6 72 Tryz.underlying27 hi hz hsize hby rfl (by decide) v l.length (rqsV l) hs hown pa ys.length c (rqsV ys) hx (rqsV_len ys) hy (rqsV_one ys) (by omega) (by decide) hbase ?_
  intro a' c' w' h1 h2 h3
  refine h a' c' w' ?_ h2 h3
  unfold OwnR
  rw [List.length_append, rqsV_app]
  exact h1
theorem step_app_u64s {w : World} {ops : Array Oper} {o : Oper} {a : Act} {K : Act → World → Prop} {Q : Exit → Act → World → Prop} {E : Prop} (hgd : o.guard = none) (s x : Operand) (ho : o.op = .call { callee := .builtin .append, args := #[s, x], argTypes := #[28, 28] })
    (base : Nat) (v : Value) (l : List Int) (hs : a.eval s = v) (hown : OwnU w base v l) (pa : Option Addr) (c : Nat) (ys : List Int) (hx : a.eval x = .slice pa ys.length c) (hy : U64Sl w pa ys) (hb : l.length + ys.length ≤ 10000) (hbase : base ≤ w.heap.size)
    (h : ∀ a' c' w', OwnU w' base (.slice a' (l.length + ys.length) c') (l ++ ys) → w.grownBy w' v.ownBlock → (∀ g, (Value.slice a' (l.length + ys.length) c').ownBlock = some g → v.ownBlock = some g ∨ w.heap.size ≤ g) → K (a.put o.dst (.slice a' (l.length + ys.length) c')) w') :
    if Region.wanted o (yielded ops a.tmps) = true then Oper.wp Tryz.prog o a w K Q else E := by
  obtain ⟨i, hi, hz, hsize, hby⟩ := info_parts info_u64W
  refine step_app_any hgd s x 28 ho base 29 i _ 1 8 Tryz.underlying28 hi hz hsize hby rfl (by decide) v l.length (l.map u64V) hs hown pa ys.length c (ys.map u64V) hx (by simp) hy (fun u hu => by obtain ⟨n, _, rfl⟩ := List.mem_map.1 hu; rfl) (by omega) (by decide) hbase ?_
  intro a' c' w' h1 h2 h3
  refine h a' c' w' ?_ h2 h3
  unfold OwnU
  rw [List.length_append, List.map_append]
  exact h1
/-- The reference's book: its block, its requests' row, the row of the ticks since when they wait, how many were asked for. -/
def BookR (w : World) (base m : Nat) (v u : Value) (l : List Wt) (last : Nat) : Prop := base ≤ m ∧ w.heap[m]? = some (.cells #[v, u, .int .u64 (last : Int)] 31 (0, 0)) ∧ OwnR w base v (l.map (·.r)) ∧ OwnU w base u (l.map (·.since))
end Go.Proofs.YtibhohpamnpkcaaGreatDoor

/- The reference's book: drop. -/
namespace Go.Proofs.YtibhohpamnpkcaaGreatDoor
open Go.RowKit

theorem step_rqs {w : World} {ops : Array Oper} {o : Oper} {a : Act} {K : Act → World → Prop} {Q : Exit → Act → World → Prop} {E : Prop} (hgd : o.guard = none) (s x : Operand) (ho : o.op = .call { callee := .builtin .append, args := #[s, x], argTypes := #[27, 27] })
    (base : Nat) (v : Value) (l : List Rq) (n k N : Nat) (hln : l.length = n) (hN : n + k = N) (hs : a.eval s = v) (hown : OwnR w base v l) (pa : Option Addr) (c : Nat) (ys : List Rq) (hk : ys.length = k) (hx : a.eval x = .slice pa k c) (hy : RqsSl w pa ys) (hb : N ≤ 10000) (hbase : base ≤ w.heap.size)
    (h : ∀ a' c' w', OwnR w' base (.slice a' N c') (l ++ ys) → w.grownBy w' v.ownBlock → (∀ g, (Value.slice a' N c').ownBlock = some g → v.ownBlock = some g ∨ w.heap.size ≤ g) → K (a.put o.dst (.slice a' N c')) w') :
    if Region.wanted o (yielded ops a.tmps) = true then Oper.wp Tryz.prog o a w K Q else E := by
  subst hln hk hN
  exact step_app_rqs hgd s x ho base v l hs hown pa c ys hx hy hb hbase h
theorem step_u64s {w : World} {ops : Array Oper} {o : Oper} {a : Act} {K : Act → World → Prop} {Q : Exit → Act → World → Prop} {E : Prop} (hgd : o.guard = none) (s x : Operand) (ho : o.op = .call { callee := .builtin .append, args := #[s, x], argTypes := #[28, 28] })
    (base : Nat) (v : Value) (l : List Int) (n k N : Nat) (hln : l.length = n) (hN : n + k = N) (hs : a.eval s = v) (hown : OwnU w base v l) (pa : Option Addr) (c : Nat) (ys : List Int) (hk : ys.length = k) (hx : a.eval x = .slice pa k c) (hy : U64Sl w pa ys) (hb : N ≤ 10000) (hbase : base ≤ w.heap.size)
    (h : ∀ a' c' w', OwnU w' base (.slice a' N c') (l ++ ys) → w.grownBy w' v.ownBlock → (∀ g, (Value.slice a' N c').ownBlock = some g → v.ownBlock = some g ∨ w.heap.size ≤ g) → K (a.put o.dst (.slice a' N c')) w') :
    if Region.wanted o (yielded ops a.tmps) = true then Oper.wp Tryz.prog o a w K Q else E := by
  subst hln hk hN
  exact step_app_u64s hgd s x ho base v l hs hown pa c ys hx hy hb hbase h
theorem OwnR.row {w : World} {base : Nat} {v : Value} {l : List Rq} (h : OwnR w base v l) (hne : l ≠ []) : ∃ R cap, v = .slice (some ⟨R, 0, none⟩) l.length cap ∧ l.length ≤ cap ∧ cap ≤ maxLen ∧ base ≤ R ∧ R < w.heap.size ∧ ∀ j u, (rqsV l)[j]? = some u → w.cell? ⟨R, j, none⟩ = some u := by
  rcases h.2 with ⟨_, e1⟩ | ⟨g, cap, cur, e0, hg, hh, hc, hm, hs, ht⟩
  · exact absurd (List.eq_nil_of_length_eq_zero e1) hne
  · refine ⟨g, cap, e0, hc, hm, hg, lt_of_block hh, fun j u hj => ?_⟩
    rw [← ht, List.getElem?_take] at hj
    split at hj
    · rw [cell_of_row w g j _ _ _ hh, ← Array.getElem?_toList]; exact hj
    · cases hj
theorem OwnU.row {w : World} {base : Nat} {v : Value} {l : List Int} (h : OwnU w base v l) (hne : l ≠ []) : ∃ R cap, v = .slice (some ⟨R, 0, none⟩) l.length cap ∧ l.length ≤ cap ∧ cap ≤ maxLen ∧ base ≤ R ∧ R < w.heap.size ∧ ∀ j u, (l.map u64V)[j]? = some u → w.cell? ⟨R, j, none⟩ = some u := by
  rcases h.2 with ⟨_, e1⟩ | ⟨g, cap, cur, e0, hg, hh, hc, hm, hs, ht⟩
  · exact absurd (List.eq_nil_of_length_eq_zero e1) hne
  · refine ⟨g, cap, e0, hc, hm, hg, lt_of_block hh, fun j u hj => ?_⟩
    rw [← ht, List.getElem?_take] at hj
    split at hj
    · rw [cell_of_row w g j _ _ _ hh, ← Array.getElem?_toList]; exact hj
    · cases hj
theorem rqsV_take {l : List Rq} {i j : Nat} {u : Value} (h : (rqsV (l.take i))[j]? = some u) : (rqsV l)[j]? = some u := by
  have e : rqsV l = rqsV (l.take i) ++ rqsV (l.drop i) := by rw [← rqsV_app, List.take_append_drop]
  rw [e, List.getElem?_append_left (List.getElem?_eq_some_iff.1 h).1]
  exact h
theorem rqsV_drop {l : List Rq} {i j : Nat} {u : Value} (hi : i ≤ l.length) (h : (rqsV (l.drop i))[j]? = some u) : (rqsV l)[i * 6 + j]? = some u := by
  have e : rqsV l = rqsV (l.take i) ++ rqsV (l.drop i) := by rw [← rqsV_app, List.take_append_drop]
  have hl : (rqsV (l.take i)).length = i * 6 := by rw [rqsV_len, List.length_take, Nat.min_eq_left hi]
  rw [e, List.getElem?_append_right (by omega), hl, show i * 6 + j - i * 6 = j by omega]
  exact h
theorem own_lit0 (w : World) (base size : Nat) (t : TypeId) (h : base ≤ w.heap.size) : (w.alloc (.cells #[] t)).ownsRow base t size (.slice (some ⟨w.heap.size, 0, none⟩) 0 0) 0 [] :=
  ⟨by simp, .inr ⟨w.heap.size, 0, #[], rfl, h, heap_alloc_new _ _, Nat.le_refl _, Nat.zero_le _, by simp, by simp⟩⟩
theorem book_set0' {w : World} {b : Nat} {v x z y : Value} {t : TypeId} (h : w.heap[b]? = some (.cells #[v, x, z] t (0, 0))) : (w.setCell ⟨b, 0, none⟩ y).heap[b]? = some (.cells #[y, x, z] t (0, 0)) := by simp [World.setCell, Array.getElem?_modify, h]
theorem book_set1' {w : World} {b : Nat} {v x z y : Value} {t : TypeId} (h : w.heap[b]? = some (.cells #[v, x, z] t (0, 0))) : (w.setCell ⟨b, 1, none⟩ y).heap[b]? = some (.cells #[v, y, z] t (0, 0)) := by simp [World.setCell, Array.getElem?_modify, h]
theorem grown_setM {a w : World} {m j : Nat} (h : a.grownBy w none) (u : Value) : a.grownBy (w.setCell ⟨m, j, none⟩ u) (some m) :=
  ⟨h.os, h.tape, h.output, by simpa [World.setCell] using h.size, fun k hk hne => (Below.heap_setCell w ⟨m, j, none⟩ u k (by show k ≠ m; rintro rfl; exact hne rfl)).trans (h.block k hk (by simp))⟩
theorem low_grown {w wa w4 w5 : World} {r : Option Nat} (hal : Below w.heap.size w wa) (hg4 : wa.drew.grownBy w4 (some w.heap.size)) (hg5 : w4.grownBy w5 r) (hr : ∀ g, r = some g → w.heap.size ≤ g) : w.grownBy w5 none := by
  have h1 : w.grownBy w4 none := ⟨hg4.os.trans hal.os, hg4.tape.trans hal.tape, hg4.output.trans hal.output, Nat.le_trans hal.size hg4.size, fun k hk _ => (hg4.block k (Nat.lt_of_lt_of_le hk hal.size) (fun e => by injection e; omega)).trans (hal.block k hk)⟩
  exact ⟨hg5.os.trans h1.os, hg5.tape.trans h1.tape, hg5.output.trans h1.output, Nat.le_trans h1.size hg5.size, fun k hk _ => (hg5.block k (Nat.lt_of_lt_of_le hk h1.size) (fun e => by have := hr k e.symm; omega)).trans (h1.block k hk (by simp))⟩
theorem OwnU.lt {w : World} {base k : Nat} {v : Value} {l : List Int} (h : OwnU w base v l) (hk : v.ownBlock = some k) : base ≤ k ∧ k < w.heap.size := World.ownsRow.lt h k hk
theorem OwnU.setOther {w : World} {base b j : Nat} {v : Value} {l : List Int} (h : OwnU w base v l) (hb : v.ownBlock ≠ some b) (u : Value) : OwnU (w.setCell ⟨b, j, none⟩ u) base v l := ownsRow_setCell_other h (a := ⟨b, j, none⟩) hb u
theorem own_block {w w' : World} {base n size : Nat} {e : TypeId} {v : Value} {xs : List Value} (h : w.ownsRow base e size v n xs) (hb : ∀ g, v.ownBlock = some g → w'.heap[g]? = w.heap[g]?) : w'.ownsRow base e size v n xs := by
  refine ⟨h.1, ?_⟩
  rcases h.2 with h2 | ⟨k, cap, cur, e, h3, h4, h5⟩
  · exact .inl h2
  · exact .inr ⟨k, cap, cur, e, h3, (hb k (by rw [e]; rfl)).trans h4, h5⟩
theorem own_typed {w : World} {base n size g : Nat} {e t : TypeId} {v : Value} {xs : List Value} {c : Array Value} (h : w.ownsRow base e size v n xs) (hg : v.ownBlock = some g) (hm : w.heap[g]? = some (.cells c t (0, 0))) : e = t := by
  rcases h.2 with ⟨e0, _⟩ | ⟨k, cap, cur, e0, _, h4, _⟩
  · rw [e0] at hg; cases hg
  · rw [e0] at hg
    injection hg with hg
    subst hg
    rw [hm] at h4
    injection h4 with h4
    injection h4 with _ h4
    exact h4.symm
theorem OwnU.grownM {w w' : World} {base m : Nat} {v : Value} {l : List Int} {c : Array Value} (h : OwnU w base v l) (hg : w.grownBy w' (some m)) (hm : w.heap[m]? = some (.cells c 31 (0, 0))) : OwnU w' base v l :=
  own_block h fun g hv => hg.block g (h.lt hv).2 (fun e => by
    injection e with e
    subst e
    exact absurd (own_typed h hv hm) (by decide))
def DropRPost (m base last i : Nat) (v u : Value) (l : List Wt) (w : World) (e : Ending) (w' : World) : Prop := e = .returned (.tuple #[]) ∧ w.grownBy w' (some m) ∧ ∃ v' u', BookR w' base m v' u' (l.take i ++ l.drop (i + 1)) last ∧ (∀ g, v'.ownBlock = some g → w.heap.size ≤ g) ∧ (∀ g, u'.ownBlock = some g → w.heap.size ≤ g)
set_option maxHeartbeats 6400000 in
set_option maxRecDepth 100000 in
theorem ref26_drop (m base last i : Nat) (v u : Value) (l : List Wt) (w : World) (h : BookR w base m v u l last) (hi : i < l.length) (hl : l.length ≤ 1000) :
    Calls Tryz.prog 30 #[.pointer (some ⟨m, 0, none⟩), .int .i64 (i : Int)] w (DropRPost m base last i v u l w) := by
  obtain ⟨hmb, hm, hR, hU⟩ := h
  have HU := Lib.hid hU
  clear hU
  have hne : l.map (·.r) ≠ [] := fun e => by rw [List.map_eq_nil_iff] at e; subst e; simp at hi
  obtain ⟨R, cap, rfl, hc, hcm, hRb, hRw, hcell⟩ := hR.row hne
  have hnl : (l.map (·.r)).length = l.length := by simp
  rw [hnl] at hc hm hR
  have hmw := lt_of_block hm
  have c0 : w.cell? ⟨m, 0, none⟩ = some (.slice (some ⟨R, 0, none⟩) l.length cap) := (cell_of_row _ _ 0 _ _ _ hm).trans rfl
  have f0 : w.frozen? ⟨m, 0, none⟩ = false := by simp [World.frozen?, hm]
  have hal0 : Below w.heap.size w (w.alloc (.cells #[] 35)) := (Below.refl _ _).alloc (Nat.le_refl _) _
  have cA : (w.alloc (.cells #[] 35)).cell? ⟨m, 0, none⟩ = some (.slice (some ⟨R, 0, none⟩) l.length cap) := (hal0.cell (p := ⟨m, 0, none⟩) hmw).trans c0
  obtain ⟨Y1, hY1⟩ : ∃ Y, Y = (l.map (·.r)).take i := ⟨_, rfl⟩
  obtain ⟨Y2, hY2⟩ : ∃ Y, Y = (l.map (·.r)).drop (i + 1) := ⟨_, rfl⟩
  have n1 : Y1.length = i := by rw [hY1, List.length_take, hnl]; omega
  have n2 : Y2.length = l.length - (i + 1) := by rw [hY2, List.length_drop, hnl]
  have hE : OwnR (w.alloc (.cells #[] 35)).drew w.heap.size (.slice (some ⟨w.heap.size, 0, none⟩) 0 0) [] := own_lit0 w w.heap.size 6 35 (Nat.le_refl _)
  have S1 : RqsSl (w.alloc (.cells #[] 35)).drew (some ⟨R, 0, none⟩) Y1 := fun j y hj => ⟨_, rfl, by
    rw [hY1] at hj
    rw [Addr.add_lit, Nat.zero_add]
    exact (hal0.cell (p := ⟨R, j, none⟩) hRw).trans (hcell j y (rqsV_take hj))⟩
  obtain ⟨A, hA, hAb⟩ : ∃ A : Option Addr, (if cap = i + 1 then some (⟨R, 0, none⟩ : Addr) else some ⟨R, (i + 1) * 6, none⟩) = A ∧ (∀ W : World, W.heap[R]? = w.heap[R]? → RqsSl W A Y2) := by
    by_cases hci : cap = i + 1
    · refine ⟨_, rfl, fun W _ j y hj => ?_⟩
      have := (List.getElem?_eq_some_iff.1 hj).1
      rw [rqsV_len, n2] at this
      omega
    · refine ⟨some ⟨R, (i + 1) * 6, none⟩, by rw [if_neg hci], fun W hW j y hj => ⟨_, rfl, ?_⟩⟩
      rw [hY2] at hj
      rw [Addr.add_lit]
      exact (World.cell?_of_block (a := ⟨R, (i + 1) * 6 + j, none⟩) hW).trans (hcell _ y (rqsV_drop (by rw [hnl]; omega) hj))
  have HAB := Lib.hid hAb
  have HY1 := Lib.hid hY1
  have HY2 := Lib.hid hY2
  have HM := Lib.hid hm
  have HN1 := Lib.hid n1
  have HN2 := Lib.hid n2
  have z1 : IntKind.i64.wrap ((i : Int) + 1) = (i : Int) + 1 := IntWalk.i64_in _ (by omega)
  have y1 : (0 : Int) ≤ (i : Int) := by omega
  have y2 : (i : Int) ≤ (cap : Int) := by omega
  have y3 : (0 : Int) ≤ (i : Int) + 1 := by omega
  have y4 : (i : Int) + 1 ≤ (l.length : Int) := by omega
  have y5 : ((i : Int) + 1).toNat = i + 1 := by omega
  have hN : i + (l.length - (i + 1)) = l.length - 1 := by omega
  clear hAb hY1 hY2 hm n1 n2 hcell
  go_enter Tryz.func30, Tryz.ntmps30
  go_upto_region 0 with (fail)
  go_cut [] (fun wx => ∃ v', wx.heap[m]? = some (.cells #[v', u, .int .u64 (last : Int)] 31 (0, 0)) ∧ OwnR wx w.heap.size v' (Y1 ++ Y2) ∧ v'.ownBlock ≠ some m ∧ w.grownBy wx (some m))
  case first =>
    go_region_law (first
      | (refine step_rqs rfl (.tmp 5) (.tmp 11) rfl w.heap.size (.slice (some ⟨w.heap.size, 0, none⟩) 0 0) [] 0 i i rfl (Nat.zero_add _) (by simp [Act.eval, Act.put]) hE (some ⟨R, 0, none⟩) cap Y1 HN1.out (by simp [Act.eval, Act.put]) S1 (by omega) (by simp) ?_; intro a4 c4 w4 hown4 hg4 hf4; rw [List.nil_append] at hown4; have r4 := (hg4.block R (by simp; omega) (fun e => by simp [Value.ownBlock] at e; omega)).trans (hal0.block R hRw); have m4 := (hg4.block m (by simp; omega) (fun e => by simp [Value.ownBlock] at e; omega)).trans (hal0.block m hmw); have cM4 : w4.cell? ⟨m, 0, none⟩ = some (.slice (some ⟨R, 0, none⟩) l.length cap) := (World.cell?_of_block (a := ⟨m, 0, none⟩) m4).trans c0; have hs4 := hg4.size)
      | (refine step_rqs rfl (.tmp 12) (.tmp 19) rfl w.heap.size (.slice a4 i c4) Y1 i (l.length - (i + 1)) (l.length - 1) HN1.out hN (by simp [Act.eval, Act.put]) hown4 A (cap - (i + 1)) Y2 HN2.out (by simp [Act.eval, Act.put] <;> exact hA) (HAB.out _ r4) (by omega) (by simp at hs4; omega) ?_; intro a5 c5 w5 hown5 hg5 hf5; have o4 : ∀ g, (Value.slice a4 i c4).ownBlock = some g → w.heap.size ≤ g := (fun g hg => by rcases hf4 g hg with e | e <;> simp [Value.ownBlock] at e <;> omega); have m5 := (hg5.block m (by simp at hs4; omega) (fun e => by have := o4 m e.symm; omega)).trans m4; have cM5 : w5.cell? ⟨m, 0, none⟩ = some (.slice (some ⟨R, 0, none⟩) l.length cap) := (World.cell?_of_block (a := ⟨m, 0, none⟩) m5).trans c0; have fM5 : w5.frozen? ⟨m, 0, none⟩ = false := (World.frozen?_of_block (a := ⟨m, 0, none⟩) m5).trans f0; have hl5 : m < w5.heap.size := by (have := hg5.size; simp at hs4; omega)))

    all_goals
      have h5 := book_set0' (y := .slice a5 (l.length - 1) c5) (m5.trans HM.out)
      have n5 : (Value.slice a5 (l.length - 1) c5).ownBlock ≠ some m := fun e => by
        rcases hf5 m e with e' | e'
        · have := o4 m e'; omega
        · simp at hs4; omega
      have hw5 : w.grownBy w5 none := low_grown hal0 hg4 hg5 o4
      have hw6 : w.grownBy (w5.setCell ⟨m, 0, none⟩ (.slice a5 (l.length - 1) c5)) (some m) := grown_setM hw5 _
      have hown6 := hown5.setOther (b := m) (j := 0) n5 (.slice a5 (l.length - 1) c5)
      clear hown4 hg4 hf4 r4 m4 cM4 hs4 hown5 hg5 hf5 o4 m5 cM5 fM5 hl5 hw5
      go_wp2_with fail
      go_meet
      exact ⟨_, h5, hown6, n5, hw6⟩
  case rest =>
    obtain ⟨v', hm', hown', hn', hgr'⟩ := hcut
    rw [HY1.out, HY2.out, ← List.map_take, ← List.map_drop, ← List.map_append] at hown'
    have hv' : ∀ g, v'.ownBlock = some g → w.heap.size ≤ g := fun g hg => (hown'.lt hg).1
    have hu' := HU.out.grownM hgr' HM.out
    have hne2 : l.map (·.since) ≠ [] := fun e => by rw [List.map_eq_nil_iff] at e; subst e; simp at hi
    obtain ⟨R2, cap2, rfl, hc2, hcm2, hRb2, hRw2, hcell2⟩ := hu'.row hne2
    have hnl2 : (l.map (·.since)).length = l.length := by simp
    rw [hnl2] at hc2 hm' hu'
    clear hE S1 cA c0 f0 hal0 hR hA HAB HY1 HY2 HN1 HN2 HM HU hne
    have hmw2 := lt_of_block hm'
    have c02 : wc.cell? ⟨m, 1, none⟩ = some (.slice (some ⟨R2, 0, none⟩) l.length cap2) := (cell_of_row _ _ 1 _ _ _ hm').trans rfl
    have f02 : wc.frozen? ⟨m, 1, none⟩ = false := by simp [World.frozen?, hm']
    have hal2 : Below wc.heap.size wc (wc.alloc (.cells #[] 29)) := (Below.refl _ _).alloc (Nat.le_refl _) _
    have cA2 : (wc.alloc (.cells #[] 29)).cell? ⟨m, 1, none⟩ = some (.slice (some ⟨R2, 0, none⟩) l.length cap2) := (hal2.cell (p := ⟨m, 1, none⟩) hmw2).trans c02
    obtain ⟨Z1, hZ1⟩ : ∃ Y, Y = (l.map (·.since)).take i := ⟨_, rfl⟩
    obtain ⟨Z2, hZ2⟩ : ∃ Y, Y = (l.map (·.since)).drop (i + 1) := ⟨_, rfl⟩
    have n1 : Z1.length = i := by rw [hZ1, List.length_take, hnl2]; omega
    have n2 : Z2.length = l.length - (i + 1) := by rw [hZ2, List.length_drop, hnl2]
    have hE2 : OwnU (wc.alloc (.cells #[] 29)).drew wc.heap.size (.slice (some ⟨wc.heap.size, 0, none⟩) 0 0) [] := own_lit0 wc wc.heap.size 1 29 (Nat.le_refl _)
    have S2 : U64Sl (wc.alloc (.cells #[] 29)).drew (some ⟨R2, 0, none⟩) Z1 := fun j y hj => ⟨_, rfl, by
      rw [hZ1, List.map_take, List.getElem?_take] at hj
      rw [Addr.add_lit, Nat.zero_add]
      split at hj
      · exact (hal2.cell (p := ⟨R2, j, none⟩) hRw2).trans (hcell2 j y hj)
      · cases hj⟩
    obtain ⟨A2, hA2, hAb2⟩ : ∃ A : Option Addr, (if cap2 = i + 1 then some (⟨R2, 0, none⟩ : Addr) else some ⟨R2, i + 1, none⟩) = A ∧ (∀ W : World, W.heap[R2]? = wc.heap[R2]? → U64Sl W A Z2) := by
      by_cases hci : cap2 = i + 1
      · refine ⟨_, rfl, fun W _ j y hj => ?_⟩
        have := (List.getElem?_eq_some_iff.1 hj).1
        rw [List.length_map, n2] at this
        omega
      · refine ⟨some ⟨R2, i + 1, none⟩, by rw [if_neg hci], fun W hW j y hj => ⟨_, rfl, ?_⟩⟩
        rw [hZ2, List.map_drop, List.getElem?_drop] at hj
        rw [Addr.add_lit]
        exact (World.cell?_of_block (a := ⟨R2, i + 1 + j, none⟩) hW).trans (hcell2 _ y hj)
    have HAB2 := Lib.hid hAb2
    have HZ1 := Lib.hid hZ1
    have HZ2 := Lib.hid hZ2
    have HM2 := Lib.hid hm'
    have HN1 := Lib.hid n1
    have HN2 := Lib.hid n2
    have HO2 := Lib.hid hown'
    have HG2 := Lib.hid hgr'
    have y2b : (i : Int) ≤ (cap2 : Int) := by omega
    clear hAb2 hZ1 hZ2 hm' n1 n2 hcell2 hown' hgr' hu'
    go_upto_region 1 with (fail)
    go_region_law (first
      | (refine step_u64s rfl (.tmp 24) (.tmp 30) rfl wc.heap.size (.slice (some ⟨wc.heap.size, 0, none⟩) 0 0) [] 0 i i rfl (Nat.zero_add _) (by simp [Act.eval, Act.put]) hE2 (some ⟨R2, 0, none⟩) cap2 Z1 HN1.out (by simp [Act.eval, Act.put]) S2 (by omega) (by simp) ?_; intro a4 c4 w4 hown4 hg4 hf4; rw [List.nil_append] at hown4; have r4 := (hg4.block R2 (by simp; omega) (fun e => by simp [Value.ownBlock] at e; omega)).trans (hal2.block R2 hRw2); have m4 := (hg4.block m (by simp; omega) (fun e => by simp [Value.ownBlock] at e; omega)).trans (hal2.block m hmw2); have cM4 : w4.cell? ⟨m, 1, none⟩ = some (.slice (some ⟨R2, 0, none⟩) l.length cap2) := (World.cell?_of_block (a := ⟨m, 1, none⟩) m4).trans c02; have hs4 := hg4.size)
      | (refine step_u64s rfl (.tmp 31) (.tmp 38) rfl wc.heap.size (.slice a4 i c4) Z1 i (l.length - (i + 1)) (l.length - 1) HN1.out hN (by simp [Act.eval, Act.put]) hown4 A2 (cap2 - (i + 1)) Z2 HN2.out (by simp [Act.eval, Act.put] <;> exact hA2) (HAB2.out _ r4) (by omega) (by simp at hs4; omega) ?_; intro a5 c5 w5 hown5 hg5 hf5; have o4 : ∀ g, (Value.slice a4 i c4).ownBlock = some g → wc.heap.size ≤ g := (fun g hg => by rcases hf4 g hg with e | e <;> simp [Value.ownBlock] at e <;> omega); have m5 := (hg5.block m (by simp at hs4; omega) (fun e => by have := o4 m e.symm; omega)).trans m4; have cM5 : w5.cell? ⟨m, 1, none⟩ = some (.slice (some ⟨R2, 0, none⟩) l.length cap2) := (World.cell?_of_block (a := ⟨m, 1, none⟩) m5).trans c02; have fM5 : w5.frozen? ⟨m, 1, none⟩ = false := (World.frozen?_of_block (a := ⟨m, 1, none⟩) m5).trans f02; have hl5 : m < w5.heap.size := by (have := hg5.size; simp at hs4; omega)))
    all_goals
      have h5 := book_set1' (y := .slice a5 (l.length - 1) c5) (m5.trans HM2.out)
      have n5 : (Value.slice a5 (l.length - 1) c5).ownBlock ≠ some m := fun e => by
        rcases hf5 m e with e' | e'
        · have := o4 m e'; omega
        · simp at hs4; omega
      have hw5 : wc.grownBy w5 none := low_grown hal2 hg4 hg5 o4
      have hw6 : wc.grownBy (w5.setCell ⟨m, 1, none⟩ (.slice a5 (l.length - 1) c5)) (some m) := grown_setM hw5 _
      have hown6 := hown5.setOther (b := m) (j := 1) n5 (.slice a5 (l.length - 1) c5)
      clear hown4 hg4 hf4 r4 m4 cM4 hs4 hown5 hg5 hf5 o4 m5 cM5 fM5 hl5 hw5
      have hfin : w.grownBy (w5.setCell ⟨m, 1, none⟩ (.slice a5 (l.length - 1) c5)) (some m) := ⟨hw6.os.trans HG2.out.os, hw6.tape.trans HG2.out.tape, hw6.output.trans HG2.out.output, Nat.le_trans HG2.out.size hw6.size, fun k hk hne => (hw6.block k (Nat.lt_of_lt_of_le hk HG2.out.size) hne).trans (HG2.out.block k hk hne)⟩
      have hbase6 : OwnR (w5.setCell ⟨m, 1, none⟩ (.slice a5 (l.length - 1) c5)) base v' ((l.take i ++ l.drop (i + 1)).map (·.r)) := ownsRow_base (own_block HO2.out fun g hv => hw6.block g (HO2.out.lt hv).2 (fun e => hn' (hv.trans e))) (by omega)
      have hu6 : ∀ g, (Value.slice a5 (l.length - 1) c5).ownBlock = some g → w.heap.size ≤ g := fun g hg => by have := (hown6.lt hg).1; have := HG2.out.size; omega
      rw [HZ1.out, HZ2.out, ← List.map_take, ← List.map_drop, ← List.map_append] at hown6
      have HFIN := Lib.hid (show DropRPost m base last i (.slice (some ⟨R, 0, none⟩) l.length cap) (.slice (some ⟨R2, 0, none⟩) l.length cap2) l w (.returned (.tuple #[])) (w5.setCell ⟨m, 1, none⟩ (.slice a5 (l.length - 1) c5)) from ⟨rfl, hfin, v', _, ⟨hmb, h5, hbase6, ownsRow_base hown6 (by have := HG2.out.size; omega)⟩, hv', hu6⟩)
      clear hw6 hown6 h5 n5 hfin hbase6 hu6
      go_wp2_with fail
      (try simp only [Exit.inBlock, Exit.then])
      refine bodyPost_ret (results_none rfl _ _ _) rfl ?_
      exact HFIN.out
end Go.Proofs.YtibhohpamnpkcaaGreatDoor
