/- slices.Delete over requests that wait: one is taken out. -/
import Derived.Test.YtibhohpamnpkcaaGreatDoorWirePlaysM2
import Derived.Deep.RegionLaw
import Derived.Shelf.RegionOpenPlain
import Derived.Test.YtibhohpamnpkcaaGreatDoorWirePlaysM1
import Derived.Laws.ResultCell
import Derived.Laws.Tables
import Derived.Deep.DeepCutAuto
import Derived.Deep.RegionHeld

namespace Go.Proofs.YtibhohpamnpkcaaGreatDoor
open Go.RowKit

theorem grown_setCells {a : World} {b : Nat} : ∀ (vs : List Value) (o : Nat) (w : World), a.grownBy w (some b) → a.grownBy (w.setCells b o vs) (some b)
  | [], _, _, h => h
  | v :: r, o, w, h => grown_setCells r (o + 1) _ ⟨h.os, h.tape, h.output, by simpa [World.setCell] using h.size, fun k hk hne => (Below.heap_setCell w ⟨b, o, none⟩ v k (by rintro rfl; exact hne rfl)).trans (h.block k hk hne)⟩
def DeletePost (R cap i : Nat) (l : List Wt) (w : World) (e : Ending) (w' : World) : Prop := e = .returned (.slice (some ⟨R, 0, none⟩) (l.length - 1) cap) ∧ RowW w' R cap (l.take i ++ l.drop (i + 1)) ∧ w.grownBy w' (some R)
set_option maxHeartbeats 6400000 in
set_option maxRecDepth 100000 in
theorem wt_Delete (R cap i : Nat) (l : List Wt) (w : World) (hrow : RowW w R cap l) (hi : i < l.length) (hl : l.length ≤ 16777216) (hcap : cap ≤ maxLen) :
    Calls Tryz.prog 35 #[.slice (some ⟨R, 0, none⟩) l.length cap, .int .i64 (i : Int), .int .i64 ((i : Int) + 1)] w (DeletePost R cap i l w) := by
  have hc := hrow.len
  unfold maxLen at hcap
  obtain ⟨news, hnews⟩ : ∃ news, news = wtsV (l.drop (i + 1)) := ⟨_, rfl⟩
  have hlen : news.length = (l.length - (i + 1)) * 7 := by rw [hnews, wtsV_len, List.length_drop]
  have hget : ∀ t u, news[t]? = some u → w.drew.cell? ⟨R, (i + 1) * 7 + t, none⟩ = some u := by
    intro t u hu
    have ht := (List.getElem?_eq_some_iff.1 hu).1
    rw [hlen] at ht
    obtain ⟨x, hx⟩ : ∃ x, l[i + 1 + t / 7]? = some x := ⟨_, List.getElem?_eq_getElem (by omega)⟩
    have h1 := hrow.range hx (t % 7)
    have h2 := wtsV_at (l := l.drop (i + 1)) (i := t / 7) (p := x) (by rw [List.getElem?_drop]; exact hx) (t % 7) (by omega)
    rw [show t / 7 * 7 + t % 7 = t by omega, ← hnews, hu] at h2
    have h3 := h1 u h2.symm
    rw [show (i + 1 + t / 7) * 7 + t % 7 = (i + 1) * 7 + t by omega] at h3
    exact h3
  obtain ⟨A, hA, hsrc⟩ : ∃ A : Addr, (if cap = i + 1 then some (⟨R, 0, none⟩ : Addr) else some ⟨R, (i + 1) * 7, none⟩) = some A ∧ Hid (∀ t u, news[t]? = some u → w.drew.cell? (A.add t) = some u) := by
    by_cases h : cap = i + 1
    · refine ⟨⟨R, 0, none⟩, by simp [h], Lib.hid fun t u hu => ?_⟩
      have := (List.getElem?_eq_some_iff.1 hu).1
      rw [hlen] at this
      omega
    · exact ⟨⟨R, (i + 1) * 7, none⟩, by simp [h], Lib.hid fun t u hu => by rw [Addr.add_lit]; exact hget t u hu⟩
  have s2 : Hid (∀ u ∈ news, u.oneCell' = true) := Lib.hid (by
    intro u hu
    rw [hnews] at hu
    unfold wtsV at hu
    obtain ⟨x, _, hx⟩ := List.mem_flatMap.1 hu
    exact wtC_one x u hx)
  have hrd : RowW w.drew R cap l := hrow.of_block rfl
  have hth := hrd.there (o := i * 7) (n := (l.length - i) * 7) (by omega)
  have s3 : Hid (∀ t, t < news.length → (w.drew.cell? ⟨R, 0 + i * 7 + t, none⟩).isSome = true ∧ w.drew.frozen? ⟨R, 0 + i * 7 + t, none⟩ = false) := Lib.hid (by
    intro t ht
    rw [hlen] at ht
    rw [Nat.zero_add]
    exact hth t (by omega))
  have s1 := Lib.hid hlen
  obtain ⟨W1, hW1⟩ : ∃ W1, W1 = w.drew.setCells R (0 + i * 7) news := ⟨_, rfl⟩
  have hr1 : RowW W1 R cap (l.take i ++ l.drop (i + 1)) := by
    rw [hW1, hnews, Nat.zero_add]
    exact hrd.move (by omega) (by omega)
  have hl1 : (l.take i ++ l.drop (i + 1)).length = i + (l.length - (i + 1)) := by rw [List.length_append, List.length_take, List.length_drop]; omega
  have hth2 := hr1.there (o := (i + (l.length - (i + 1))) * 7) (n := (l.length - (i + (l.length - (i + 1)))) * 7) (by omega)
  have hclr := fun ty c => run_clear_wt W1 ty R ((i + (l.length - (i + 1))) * 7) (l.length - (i + (l.length - (i + 1)))) c (by omega) hth2
  have hfin := hr1.cut (n := i + (l.length - (i + 1))) (zerosW (l.length - (i + (l.length - (i + 1)))))
  rw [← hl1, List.take_length, hl1] at hfin
  have hgr : w.grownBy (W1.setCells R ((i + (l.length - (i + 1))) * 7) (zerosW (l.length - (i + (l.length - (i + 1)))))) (some R) := grown_setCells _ _ _ (by rw [hW1]; exact grown_setCells _ _ _ ⟨rfl, rfl, rfl, Nat.le_refl _, fun _ _ _ => rfl⟩)
  have HFIN := Lib.hid hfin
  have HGR := Lib.hid hgr
  have HW := Lib.hid hW1
  have hnc : ¬ cap = i + (l.length - (i + 1)) := by omega
  have hne : ((i : Int) == (i : Int) + 1) = false := by rw [beq_eq_false_iff_ne]; omega
  have y1 : (0 : Int) ≤ (i : Int) := by omega
  have y2 : (i : Int) ≤ (i : Int) + 1 := by omega
  have y3 : (i : Int) + 1 ≤ (l.length : Int) := by omega
  have y4 : (l.length : Int) ≤ (cap : Int) := by omega
  have y5 : (i : Int) ≤ (cap : Int) := by omega
  have y6 : ((i : Int) + 1).toNat = i + 1 := by omega
  have y7 : (0 : Int) ≤ (i : Int) + 1 := by omega
  have y8 : (i : Int) ≤ (l.length : Int) := by omega
  have y9 : (i : Int) + 1 ≤ (cap : Int) := by omega
  have hroom : i + (l.length - (i + 1)) ≤ cap := by omega
  obtain ⟨i0, hi0, _, hz1, _⟩ := info_parts info_wt
  clear hnews hlen hget hrd hth hr1 hth2 hfin hgr hW1 hrow hl1
  go_enter Tryz.func35, Tryz.ntmps35
  go_wp2_with fail
  go_region_law (refine step_append_room rfl (.tmp 22) (.tmp 25) 77 rfl 82 i0 7 Tryz.underlying77 hi0 hz1 R 0 i cap (by simp [Act.eval, Act.put]) A (l.length - (i + 1)) (cap - (i + 1)) news (by simp [Act.eval, Act.put]) s1.out hsrc.out s2.out hroom s3.out ?_; rw [← HW.out])
  all_goals
    go_wp2_with fail
    go_ret
    exact ⟨by rw [show l.length - 1 = i + (l.length - (i + 1)) by omega]; rfl, HFIN.out, HGR.out⟩
end Go.Proofs.YtibhohpamnpkcaaGreatDoor

/- The contracts of package api: Fail makes a fault in a new block. -/
namespace Go.Proofs.YtibhohpamnpkcaaGreatDoor
open Go.RowKit

theorem api_Fail (k i : Int) (w : World) : Calls Tryz.prog 34 #[.int .i64 k, .int .i64 i] w fun e w' =>
    e = .returned (.iface 89 (.pointer (some ⟨w.heap.size, 0, none⟩))) ∧ w.alloc (.cells #[.int .i64 k, .int .i64 i, .nilIface] 93) = w' := by
  go_enter Tryz.func34, Tryz.ntmps34
  go_wp2
  go_ret
  exact ⟨rfl, rfl⟩

theorem api_Fail' (k i : Int) (w : World) : Calls Tryz.prog 34 #[.int .i64 k, .int .i64 i] w fun e w' =>
    ∃ v, e = .returned v ∧ IsFault w' v k i ∧ Below w.heap.size w w' :=
  (api_Fail k i w).mono fun _ _ ⟨he, hw⟩ => ⟨_, he, ⟨_, rfl, by rw [← hw]; exact heap_alloc_new w _⟩, by rw [← hw]; exact (Below.refl _ _).alloc (Nat.le_refl _) _⟩
end Go.Proofs.YtibhohpamnpkcaaGreatDoor

/- A book of requests: New, Ask, Len. -/
namespace Go.Proofs.YtibhohpamnpkcaaGreatDoor
open Go.RowKit

theorem info_rq6 : (Tryz.prog.info? 35).map (·.size) = some 6 := by kernel_rfl
theorem rqC_all (x : Rq) : (rqC x).toArray.all (·.oneCell') = true := all_oneCell_toArray (rqC_one x)
theorem load_rq {w : World} {g : Nat} {r : Rq} (h : w.heap[g]? = some (.cells (rqC r).toArray 35 (0, 0))) : (loadVar 35 ⟨g, 0, none⟩).run Tryz.prog w = .ok (rqV r) w :=
  run_loadVar_row w g _ _ _ _ _ h Tryz.underlying35 rfl (by rw [info_rq6]; rfl)
theorem results_rq {fn : Func} {p u : Tmp} {tmps : Array Value} {w : World} {g : Nat} {r : Rq} (h : fn.results = #[.cell p 35, .tmp u]) (hp : tmps.getD p undef = .pointer (some ⟨g, 0, none⟩)) (hg : w.heap[g]? = some (.cells (rqC r).toArray 35 (0, 0))) :
    (results fn tmps).run Tryz.prog w = .ok (.tuple #[rqV r, tmps.getD u undef]) w := by
  rw [results_cell_tmp h, hp]
  simp [asAddr, Result.andThen, load_rq hg]
theorem results_rq1 {fn : Func} {p : Tmp} {tmps : Array Value} {w : World} {g : Nat} {r : Rq} (h : fn.results = #[.cell p 35]) (hp : tmps.getD p undef = .pointer (some ⟨g, 0, none⟩)) (hg : w.heap[g]? = some (.cells (rqC r).toArray 35 (0, 0))) :
    (results fn tmps).run Tryz.prog w = .ok (rqV r) w := by
  have hp' : tmps[p]?.getD undef = .pointer (some ⟨g, 0, none⟩) := by simpa using hp
  simp [results, h, hp', asAddr, Result.andThen, load_rq hg, Sem.run_bind]
theorem wpList_store_rq {w : World} {ops : Array Oper} {rest : List Oper} {o : Oper} {a : Act} {Q : Exit → Act → World → Prop} (hgd : o.guard = none) (x y : Operand) (ho : o.op = .store 35 x y) (g : Nat) (r old : Rq) (hx : a.eval x = .pointer (some ⟨g, 0, none⟩)) (hy : a.eval y = rqV r)
    (hg : w.heap[g]? = some (.cells (rqC old).toArray 35 (0, 0))) (h : wpList Tryz.prog ops Q rest (a.put o.dst undef) (w.setRow g (rqC r).toArray)) : wpList Tryz.prog ops Q (o :: rest) a w :=
  wpList_store_row hgd _ x y ho g (rqC r).toArray hx hy _ (rqC old).toArray hg (by rw [info_rq6]; rfl) rfl (rqC_all r) h
def rq0 : Rq := ⟨0, ⟨#[]⟩, false, 0, ⟨#[]⟩, ⟨#[]⟩⟩
theorem below_setRowW {B : Nat} {a w : World} (h : Below B a w) {g : Nat} (hg : B ≤ g) (cs : Array Value) : Below B a (w.setRow g cs) :=
  ⟨h.os, h.tape, h.output, by simpa using h.size, fun k hk => (setRow_other w g k cs (by omega)).trans (h.block k hk)⟩
theorem BookAt.cell0 {w : World} {base b last : Nat} {l : List Wt} (h : BookAt w base b l last) : ∃ v, w.cell? ⟨b, 0, none⟩ = some v ∧ w.cell? ⟨b, 1, none⟩ = some (.int .u64 (last : Int)) ∧ w.frozen? ⟨b, 0, none⟩ = false ∧ w.frozen? ⟨b, 1, none⟩ = false ∧ b < w.heap.size ∧ base ≤ b ∧ OwnW w base v l ∧ v.ownBlock ≠ some b := by
  obtain ⟨v, h1, h2, h3, h4⟩ := h
  exact ⟨v, (cell_of_row _ _ 0 _ _ _ h2).trans rfl, (cell_of_row _ _ 1 _ _ _ h2).trans rfl, by simp [World.frozen?, h2], by simp [World.frozen?, h2], lt_of_block h2, h1, h3, h4⟩
theorem BookAt.below {w w' : World} {base b last : Nat} {l : List Wt} (h : BookAt w base b l last) (hb : Below w.heap.size w w') : BookAt w' base b l last := by
  obtain ⟨v, h1, h2, h3, h4⟩ := h
  exact ⟨v, h1, (hb.block b (lt_of_block h2)).trans h2, h3.below hb, h4⟩
theorem book_set1 {w : World} {b : Nat} {v x y : Value} {t : TypeId} (h : w.heap[b]? = some (.cells #[v, x] t (0, 0))) : (w.setCell ⟨b, 1, none⟩ y).heap[b]? = some (.cells #[v, y] t (0, 0)) := by simp [World.setCell, Array.getElem?_modify, h]
theorem book_set0 {w : World} {b : Nat} {v x y : Value} {t : TypeId} (h : w.heap[b]? = some (.cells #[v, x] t (0, 0))) : (w.setCell ⟨b, 0, none⟩ y).heap[b]? = some (.cells #[y, x] t (0, 0)) := by simp [World.setCell, Array.getElem?_modify, h]
theorem OwnW.setOther {w : World} {base b j : Nat} {v : Value} {l : List Wt} (h : OwnW w base v l) (hb : v.ownBlock ≠ some b) (u : Value) : OwnW (w.setCell ⟨b, j, none⟩ u) base v l := ownsRow_setCell_other h (a := ⟨b, j, none⟩) hb u
theorem OwnW.setRowOther {w : World} {base : Nat} {v : Value} {l : List Wt} (h : OwnW w base v l) (g : Nat) (hg : v.ownBlock ≠ some g) (cs : Array Value) : OwnW (w.setRow g cs) base v l := by
  refine ⟨h.1, ?_⟩
  rcases h.2 with h2 | ⟨k, cap, cur, e, h3, h4, h5⟩
  · exact .inl h2
  · refine .inr ⟨k, cap, cur, e, h3, ?_, h5⟩
    rw [setRow_other w g k cs (by rintro rfl; rw [e] at hg; exact hg rfl)]
    exact h4
theorem rq_block {w : World} {g : Nat} {r : Rq} {t : TypeId} (h : w.heap[g]? = some (.cells (rqC r).toArray t (0, 0))) :
    w.cell? ⟨g, 0, none⟩ = some (.int .u64 r.id) ∧ w.cell? ⟨g, 1, none⟩ = some (.string r.app) ∧ w.cell? ⟨g, 2, none⟩ = some (.bool r.apple) ∧ w.cell? ⟨g, 3, none⟩ = some (.int .i64 r.kind) ∧
    w.cell? ⟨g, 4, none⟩ = some (.string r.text) ∧ w.cell? ⟨g, 5, none⟩ = some (.string r.url) :=
  ⟨(cell_of_row _ _ 0 _ _ _ h).trans rfl, (cell_of_row _ _ 1 _ _ _ h).trans rfl, (cell_of_row _ _ 2 _ _ _ h).trans rfl, (cell_of_row _ _ 3 _ _ _ h).trans rfl, (cell_of_row _ _ 4 _ _ _ h).trans rfl, (cell_of_row _ _ 5 _ _ _ h).trans rfl⟩
theorem step_wt {w : World} {ops : Array Oper} {o : Oper} {a : Act} {K : Act → World → Prop} {Q : Exit → Act → World → Prop} {E : Prop} (hgd : o.guard = none) (s x : Operand) (ho : o.op = .call { callee := .builtin .append, args := #[s, x], argTypes := #[77, 77] })
    (base : Nat) (v : Value) (acc : List Wt) (y : Wt) (hs : a.eval s = v) (hown : OwnW w base v acc) (g0 : Nat) (hx : a.eval x = .slice (some ⟨g0, 0, none⟩) 1 1)
    (hb : w.heap[g0]? = some (.cells (wtC y).toArray 82 (0, 0))) (hl : acc.length ≤ 1000) (hbase : base ≤ w.heap.size)
    (h : ∀ g c4 w4, OwnW w4 base (.slice (some ⟨g, 0, none⟩) (acc.length + 1) c4) (acc ++ [y]) → w.grownBy w4 v.ownBlock → (v.ownBlock = some g ∨ g = w.heap.size) → K (a.put o.dst (.slice (some ⟨g, 0, none⟩) (acc.length + 1) c4)) w4) :
    if Region.wanted o (yielded ops a.tmps) = true then Oper.wp Tryz.prog o a w K Q else E := by
  obtain ⟨i, hi, hz, hsize, hby⟩ := info_parts info_wt
  refine step_append_lies (P := Tryz.prog) w hgd s x 77 ho base 82 i _ 7 80 Tryz.underlying77 hi hz hsize hby rfl (by decide) v acc.length (wtsV acc) hs hown ⟨g0, 0, none⟩ 1 1 (wtC y) hx rfl
    (by intro j u hj; rw [Addr.add_lit, Nat.zero_add, cell_of_row _ g0 j _ _ _ hb, ← hj]; simp [wtC]) (wtC_one y) (by omega) (by unfold maxLen; omega) (by omega) hbase _ rfl ?_
  intro g c4 w4 h2 h3 h4 h5
  refine h g c4 w4 ?_ h3 h4
  unfold OwnW
  rw [List.length_append, wtsV_app]
  have : wtsV [y] = wtC y := by unfold wtsV; simp
  rw [this]
  exact h2
set_option maxHeartbeats 400000 in
theorem wire_New (w : World) : Calls Tryz.prog 6 #[] w fun e w' => e = .returned (.pointer (some ⟨w.heap.size, 0, none⟩)) ∧ BookAt w' w.heap.size w.heap.size [] 0 ∧ Below w.heap.size w w' := by
  go_enter Tryz.func6, Tryz.ntmps6
  go_wp2_with fail
  go_ret
  exact ⟨rfl, ⟨.slice none 0 0, Nat.le_refl _, heap_alloc_new _ _, OwnW.nil _ _, by simp [Value.ownBlock]⟩, (Below.refl _ _).alloc (Nat.le_refl _) _⟩
set_option maxHeartbeats 400000 in
theorem book_Len (b base last : Nat) (l : List Wt) (w : World) (h : BookAt w base b l last) : Calls Tryz.prog 18 #[.pointer (some ⟨b, 0, none⟩)] w fun e w' => e = .returned (.int .i64 (l.length : Int)) ∧ w = w' := by
  obtain ⟨v, c0, _, _, _, _, _, hown, _⟩ := h.cell0
  obtain ⟨a, c, rfl⟩ : ∃ a c, v = .slice a l.length c := by
    rcases hown.cases with ⟨rfl, rfl⟩ | ⟨g, cap, rfl, _⟩
    · exact ⟨_, _, rfl⟩
    · exact ⟨_, _, rfl⟩
  clear hown h
  go_enter Tryz.func18, Tryz.ntmps18
  go_wp2_with fail
  go_ret
  exact ⟨rfl, rfl⟩
set_option maxHeartbeats 3200000 in
set_option maxRecDepth 100000 in
theorem book_Ask (b base last : Nat) (l : List Wt) (r : Rq) (now : Int) (w : World) (h : BookAt w base b l last) (hl : l.length ≤ 1000) (hlast : last ≤ 1000) :
    Calls Tryz.prog 16 #[.pointer (some ⟨b, 0, none⟩), rqV r, .int .u64 now] w fun e w' => e = .returned (rqV { r with id := (last : Int) + 1 }) ∧ BookAt w' base b (l ++ [⟨{ r with id := (last : Int) + 1 }, now⟩]) (last + 1) ∧ Below base w w' := by
  obtain ⟨v, c0, c1, f0, f1, hbw, hbb, hown, hvb⟩ := h.cell0
  obtain ⟨v', hv1, hv2, hv3, hv4⟩ := h
  obtain rfl : v' = v := by
    have := (cell_of_row _ _ 0 _ _ _ hv2).symm.trans c0
    simpa using this
  have vlt : ∀ k, v'.ownBlock = some k → k < w.heap.size := fun k hk => (World.ownsRow.lt hown k hk).2
  obtain ⟨x0, x1, x2, x3, x4, x5⟩ := r
  have z1 : IntKind.u64.wrap ((last : Int) + 1) = (last : Int) + 1 := IntWalk.u64_in _ (by omega)
  show Calls Tryz.prog _ #[.pointer (some ⟨b, 0, none⟩), .agg #[.int .u64 x0, .string x1, .bool x2, .int .i64 x3, .string x4, .string x5], .int .u64 now] w _
  have hw1 : Below base w (w.setCell ⟨b, 1, none⟩ (.int .u64 ((last : Int) + 1))) := (Below.refl base w).setCell (show base ≤ (⟨b, 1, none⟩ : Addr).block from hbb) _
  have hs1 : (w.setCell ⟨b, 1, none⟩ (.int .u64 ((last : Int) + 1))).heap.size = w.heap.size := by simp [World.setCell]
  have hb1 := book_set1 (y := .int .u64 ((last : Int) + 1)) hv2
  have ho1 := hown.setOther (j := 1) hvb (.int .u64 ((last : Int) + 1))
  obtain ⟨W1, hW1⟩ : ∃ W1, W1 = w.setCell ⟨b, 1, none⟩ (.int .u64 ((last : Int) + 1)) := ⟨_, rfl⟩
  rw [← hW1] at hw1 hs1 hb1 ho1
  have ha2 : Below W1.heap.size W1 (W1.alloc (.cells #[.int .u64 ((last : Int) + 1), .string x1, .bool x2, .int .i64 x3, .string x4, .string x5] 35)) := (Below.refl _ _).alloc (Nat.le_refl _) _
  have hq1 := heap_alloc_new W1 (.cells #[.int .u64 ((last : Int) + 1), .string x1, .bool x2, .int .i64 x3, .string x4, .string x5] 35)
  have hs2 : (W1.alloc (.cells #[.int .u64 ((last : Int) + 1), .string x1, .bool x2, .int .i64 x3, .string x4, .string x5] 35)).heap.size = w.heap.size + 1 := by simp [hs1]
  obtain ⟨W2, hW2⟩ : ∃ W2, W2 = W1.alloc (.cells #[.int .u64 ((last : Int) + 1), .string x1, .bool x2, .int .i64 x3, .string x4, .string x5] 35) := ⟨_, rfl⟩
  rw [← hW2] at ha2 hq1 hs2
  have ha3 : Below W2.heap.size W2 (W2.alloc (.cells #[.int .u64 0, .string ⟨#[]⟩, .bool false, .int .i64 0, .string ⟨#[]⟩, .string ⟨#[]⟩] 35)) := (Below.refl _ _).alloc (Nat.le_refl _) _
  have hq2 := heap_alloc_new W2 (.cells #[.int .u64 0, .string ⟨#[]⟩, .bool false, .int .i64 0, .string ⟨#[]⟩, .string ⟨#[]⟩] 35)
  have hs3 : (W2.alloc (.cells #[.int .u64 0, .string ⟨#[]⟩, .bool false, .int .i64 0, .string ⟨#[]⟩, .string ⟨#[]⟩] 35)).heap.size = w.heap.size + 2 := by simp [hs2]
  obtain ⟨W, hW⟩ : ∃ W, W = W2.alloc (.cells #[.int .u64 0, .string ⟨#[]⟩, .bool false, .int .i64 0, .string ⟨#[]⟩, .string ⟨#[]⟩] 35) := ⟨_, rfl⟩
  rw [← hW] at ha3 hq2 hs3
  have ha13 := Bt ha2 ha3
  have hbW := (ha13.block b (by omega)).trans hb1
  have hoW := ho1.below ha13
  have hqW1 := (ha3.block W1.heap.size (by omega)).trans hq1
  have hwW : Below base w W := hw1.trans (ha13.mono (by omega))
  rw [hs1] at hqW1
  rw [hs2] at hq2
  rw [hW1] at hW2
  rw [hW2] at hW
  have hal0 : Below W.heap.size W (W.alloc (.cells #[.int .u64 ((last : Int) + 1), .string x1, .bool x2, .int .i64 x3, .string x4, .string x5, .int .u64 now] 82)) := (Below.refl _ _).alloc (Nat.le_refl _) _
  have hal : Below W.heap.size W (W.alloc (.cells #[.int .u64 ((last : Int) + 1), .string x1, .bool x2, .int .i64 x3, .string x4, .string x5, .int .u64 now] 82)).drew := hal0.drew
  have hblk := heap_alloc_new W (.cells #[.int .u64 ((last : Int) + 1), .string x1, .bool x2, .int .i64 x3, .string x4, .string x5, .int .u64 now] 82)
  rw [hs3] at hblk
  have hown2 := hoW.below hal
  have cW : W.cell? ⟨b, 0, none⟩ = some v' := (cell_of_row _ _ 0 _ _ _ hbW).trans rfl
  have fW : W.frozen? ⟨b, 0, none⟩ = false := by simp [World.frozen?, hbW]
  obtain ⟨k0, k1, k2, k3, k4, k5⟩ := rq_block (r := ⟨(last : Int) + 1, x1, x2, x3, x4, x5⟩) hqW1
  obtain ⟨va, vc, rfl⟩ : ∃ a c, v' = .slice a l.length c := by
    rcases hown.cases with ⟨rfl, rfl⟩ | ⟨g, cap, rfl, _⟩
    · exact ⟨_, _, rfl⟩
    · exact ⟨_, _, rfl⟩
  have hbW' : b < W.heap.size := by omega
  have hqq : w.heap.size < W.heap.size := by omega
  have HW := Lib.hid hW
  have HALL := Lib.hid (show W.heap[b]? = some (.cells #[.slice va l.length vc, .int .u64 ((last : Int) + 1)] 79 (0, 0)) ∧ W.heap[w.heap.size]? = _ ∧ W.heap[w.heap.size + 1]? = _ ∧ Below base w W ∧ W.heap.size = w.heap.size + 2 from ⟨hbW, hqW1, hq2, hwW, hs3⟩)
  clear hW hW1 hW2 hw1 hs1 hb1 ho1 ha2 hq1 hs2 ha3 hq2 ha13 hbW hqW1 hwW hv2 hv3 hv4
  go_enter Tryz.func16, Tryz.ntmps16
  go_upto_region 3 with (fail)
  rw [← HW.out]
  clear c0 c1 f0 f1
  have cD : W.drew.cell? ⟨b, 0, none⟩ = some (.slice va l.length vc) := cW
  have cA : (W.alloc (.cells #[.int .u64 ((last : Int) + 1), .string x1, .bool x2, .int .i64 x3, .string x4, .string x5, .int .u64 now] 82)).cell? ⟨b, 0, none⟩ = some (.slice va l.length vc) := (hal0.cell (p := ⟨b, 0, none⟩) hbW').trans cW
  have kD0 : W.drew.cell? ⟨w.heap.size, 0, none⟩ = _ := k0
  have kD1 : W.drew.cell? ⟨w.heap.size, 1, none⟩ = _ := k1
  have kD2 : W.drew.cell? ⟨w.heap.size, 2, none⟩ = _ := k2
  have kD3 : W.drew.cell? ⟨w.heap.size, 3, none⟩ = _ := k3
  have kD4 : W.drew.cell? ⟨w.heap.size, 4, none⟩ = _ := k4
  have kD5 : W.drew.cell? ⟨w.heap.size, 5, none⟩ = _ := k5
  go_region_law (refine step_wt rfl (.tmp 23) (.tmp 27) rfl base _ l ⟨⟨(last : Int) + 1, x1, x2, x3, x4, x5⟩, now⟩ (by simp [Act.eval, Act.put]) hown2 (w.heap.size + 2) (by simp [Act.eval, Act.put]) hblk hl (by simp; omega) ?_; intro g4 c4 w4 hown4 hst4 hgor; have hbl : b < w4.heap.size := (by have := hst4.size; simp at this; omega); have m0 := (World.cell?_of_block (a := ⟨b, 0, none⟩) (hst4.block b (by simp; omega) (fun e => hvb e.symm))).trans ((hal.cell (p := ⟨b, 0, none⟩) hbW').trans cW); have m1 := (World.frozen?_of_block (a := ⟨b, 0, none⟩) (hst4.block b (by simp; omega) (fun e => hvb e.symm))).trans ((World.frozen?_of_block (a := ⟨b, 0, none⟩) (hal.block b hbW')).trans fW))
  all_goals
    have hne : ∀ k, w.heap.size ≤ k → some k ≠ (Value.slice va l.length vc).ownBlock := fun k hk e => by have := vlt k e.symm; omega
    have hq : ∀ k, w.heap.size ≤ k → k < W.heap.size → (w4.setCell ⟨b, 0, none⟩ (.slice (some ⟨g4, 0, none⟩) (l.length + 1) c4)).heap[k]? = W.heap[k]? := fun k hk hk2 =>
      (Below.heap_setCell w4 ⟨b, 0, none⟩ _ k (by show k ≠ b; omega)).trans ((hst4.block k (by simp; omega) (hne k hk)).trans (hal.block k hk2))
    have hB5 := book_set0 (y := .slice (some ⟨g4, 0, none⟩) (l.length + 1) c4) ((hst4.block b (by simp; omega) (fun e => hvb e.symm)).trans ((hal.block b hbW').trans HALL.out.1))
    have hgb : g4 ≠ b := by
      rcases hgor with e | e
      · rintro rfl; exact hvb e
      · rintro rfl; simp at e; omega
    have hO5 := hown4.setOther (b := b) (j := 0) (by simp [Value.ownBlock]; exact hgb) (.slice (some ⟨g4, 0, none⟩) (l.length + 1) c4)
    have hQ1 := (hq w.heap.size (Nat.le_refl _) (by omega)).trans HALL.out.2.1
    have hQ2 := (hq (w.heap.size + 1) (by omega) (by omega)).trans HALL.out.2.2.1
    have hb4 := (HALL.out.2.2.2.1.trans (hal.mono (by omega))).grown hst4 (by simp; omega) (fun k hk => (World.ownsRow.lt hown2 k hk).1)
    have hb5 := hb4.setCell (show base ≤ (⟨b, 0, none⟩ : Addr).block from hbb) (.slice (some ⟨g4, 0, none⟩) (l.length + 1) c4)
    generalize w4.setCell ⟨b, 0, none⟩ (.slice (some ⟨g4, 0, none⟩) (l.length + 1) c4) = w5 at *
    obtain ⟨m0', m1', m2', m3', m4', m5'⟩ := rq_block (r := ⟨(last : Int) + 1, x1, x2, x3, x4, x5⟩) hQ1
    have hl5 := lt_of_block hQ1
    have hgq : g4 ≠ w.heap.size + 1 := by
      rcases hgor with e | e
      · have := vlt g4 e; omega
      · simp at e; omega
    have HF := Lib.hid (show BookAt (w5.setRow (w.heap.size + 1) (rqC ⟨(last : Int) + 1, x1, x2, x3, x4, x5⟩).toArray) base b (l ++ [⟨⟨(last : Int) + 1, x1, x2, x3, x4, x5⟩, now⟩]) (last + 1) from ⟨_, hbb, (setRow_other w5 _ b _ (by omega)).trans hB5, by
      have := hO5.setRowOther (w.heap.size + 1) (by simp [Value.ownBlock]; exact hgq) (rqC ⟨(last : Int) + 1, x1, x2, x3, x4, x5⟩).toArray
      exact this, by simp [Value.ownBlock]; exact hgb⟩)
    have HB6 := Lib.hid (below_setRowW hb5 (show base ≤ w.heap.size + 1 by omega) (rqC ⟨(last : Int) + 1, x1, x2, x3, x4, x5⟩).toArray)
    clear hq hne hB5 hO5 hQ1 hb4 hb5 hown4 hst4 hgor m0 m1 hal hal0 hblk cW fW cD cA kD0 kD1 kD2 kD3 kD4 kD5 k0 k1 k2 k3 k4 k5 hown2 hoW
    go_wp2_with (refine wpList_store_rq (o := ⟨none, _, _, _, _, _⟩) rfl _ _ rfl (w.heap.size + 1) ⟨(last : Int) + 1, x1, x2, x3, x4, x5⟩ rq0 rfl rfl hQ2 ?_)
    (try simp only [Exit.inBlock, Exit.then])
    refine bodyPost_ret (results_rq1 rfl rfl (setRow_heap w5 (w.heap.size + 1) _ _ _ _ hQ2)) rfl ?_
    exact ⟨rfl, HF.out, HB6.out⟩
end Go.Proofs.YtibhohpamnpkcaaGreatDoor
