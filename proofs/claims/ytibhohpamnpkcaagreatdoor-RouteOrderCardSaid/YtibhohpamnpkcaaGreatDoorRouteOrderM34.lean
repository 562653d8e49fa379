/- A slice of anything that came in. -/
import Derived.Test.YtibhohpamnpkcaaGreatDoorRouteOrderM7
import Derived.Deep.Strs
import Derived.OpenShut
import Derived.Test.YtibhohpamnpkcaaGreatDoorRouteOrderM19
import Derived.Test.YtibhohpamnpkcaaGreatDoorRouteOrderM22
import Derived.Shelf.Vars
import Derived.HandedShaped
import Derived.ChangeSame
import Derived.ChangeAt
import Derived.Test.YtibhohpamnpkcaaGreatDoorRouteOrderM23
import Derived.SliceStrings
import Derived.Lib.LaidU8
import Derived.Lib.LaidU8T
import Derived.LaidLaws
import Derived.Stop.Joined
import Derived.Test.YtibhohpamnpkcaaGreatDoorRouteOrderM31

namespace Go.Proofs.YtibhohpamnpkcaaGreatDoor
open Go.RowKit Go.ChangeShapes Go.WideShapes

set_option maxRecDepth 100000 in
theorem open_rows {H : Type} {enc : TypeId × Value → H} {W : World} {base : Nat} {spare : Nat → Bool} {held : Bool} {fuel : Nat} {cs : List Value} {x : DataW H × List MemPlace} {t e : TypeId} {n : Nat} (hu : Tryz.prog.underlying t = some (.slice e)) (hn : Tryz.prog.cellsOf e = n) (h0 : 0 < n) {α : Type} [Inhabited α] (P : List Value → α → Prop)
    (hel : ∀ (fuel : Nat) (cs : List Value) (x : DataW H × List MemPlace), DataW.trod enc Tryz.prog W base spare held fuel e cs = some x → ∃ p, P cs p) (h : DataW.trod enc Tryz.prog W base spare held fuel t cs = some x) :
    ∃ (a : Option Addr) (l : List α) (cap : Nat), cs = [.slice a l.length cap] ∧ l.length ≤ maxLen ∧ ∀ (i : Nat) p, l[i]? = some p → ∃ b off cs', a = some ⟨b, off, none⟩ ∧ b < W.heap.size ∧ (∀ j, j < n → W.cell? ⟨b, off + i * n + j, none⟩ = cs'[j]?) ∧ P cs' p := by
  rcases Go.Deep.open_slice hu h with ⟨rfl, _⟩ | ⟨a, len, cap, m, k, D, Pl, rfl, hb, hl, hm, hmm, _, hx⟩
  · exact ⟨none, [], 0, rfl, Nat.zero_le _, fun i p h => by simp at h⟩
  have hlm : len ≤ m := by rw [hmm]; split <;> omega
  by_cases hlen0 : len = 0
  · subst hlen0
    exact ⟨some a, [], cap, rfl, Nat.zero_le _, fun i p h => by simp at h⟩
  rw [hn] at hx
  obtain ⟨hspot, hblk⟩ : a = ⟨a.block, a.off, none⟩ ∧ a.block < W.heap.size := by
    obtain ⟨cs', h1, h2⟩ := hx 0 (by omega)
    obtain ⟨_, hlen, hcell⟩ := World.cells?_some h1
    have c0 := hcell 0 h0
    rw [Go.Deep.add_add, Nat.zero_mul, Nat.add_zero] at c0
    obtain ⟨v, hv⟩ : ∃ v, cs'[0]? = some v := ⟨_, List.getElem?_eq_getElem (by omega)⟩
    exact spot_none (c0.trans hv)
  obtain ⟨ab, ao, asp⟩ := a
  obtain rfl : asp = none := by injection hspot
  dsimp only at hblk
  have each : ∀ i, i < len → ∃ p : α, ∃ cs', (∀ j, j < n → W.cell? ⟨ab, ao + i * n + j, none⟩ = cs'[j]?) ∧ P cs' p := by
    intro i hi
    obtain ⟨cs', h1, h2⟩ := hx i (by omega)
    obtain ⟨_, hlen, hcell⟩ := World.cells?_some h1
    obtain ⟨p, hp⟩ := hel _ _ _ h2
    refine ⟨p, cs', fun j hj => ?_, hp⟩
    have c := hcell j hj
    rw [Go.Deep.add_add, Addr.add_lit] at c
    rw [← c, Nat.add_assoc]
  obtain ⟨f, hf⟩ := Go.Deep.choose_lt each
  have hlen : ((List.range len).map f).length = len := by simp
  refine ⟨some ⟨ab, ao, none⟩, (List.range len).map f, cap, by rw [hlen], by rw [hlen]; omega, fun i p hp => ?_⟩
  have hi : i < len := by have := (List.getElem?_eq_some_iff.1 hp).1; simpa using this
  obtain rfl : p = f i := by simpa [hi] using hp.symm
  obtain ⟨cs', h1, h2⟩ := hf i hi
  exact ⟨ab, ao, cs', rfl, hblk, h1, h2⟩
end Go.Proofs.YtibhohpamnpkcaaGreatDoor

/- A slice of items that came in. -/
namespace Go.Proofs.YtibhohpamnpkcaaGreatDoor
open Go.RowKit Go.ChangeShapes Go.WideShapes

def sizedI (l : List It) : Prop := ∀ p ∈ l, p.name.size ≤ maxLen ∧ p.value.size ≤ maxLen
theorem cells_item : Tryz.prog.cellsOf 102 = 3 := by kernel_rfl
theorem cells_str : Tryz.prog.cellsOf 9 = 1 := by kernel_rfl
theorem cells_bool : Tryz.prog.cellsOf 4 = 1 := by kernel_rfl
set_option maxRecDepth 100000 in
theorem open_items {H : Type} {enc : TypeId × Value → H} {W : World} {base : Nat} {spare : Nat → Bool} {held : Bool} {fuel : Nat} {cs : List Value} {x : DataW H × List MemPlace} (h : DataW.trod enc Tryz.prog W base spare held fuel 60 cs = some x) :
    ∃ (a : Option Addr) (l : List It) (cap : Nat), cs = [.slice a l.length cap] ∧ l.length ≤ cap ∧ cap ≤ maxLen ∧ ItemsSl W a l ∧ sizedI l := by
  rcases Go.Deep.open_slice Tryz.underlying60 h with ⟨rfl, _⟩ | ⟨a, len, cap, m, n, D, Pl, rfl, hb, hl, hm, hmm, _, hx⟩
  · exact ⟨none, [], 0, rfl, Nat.le_refl _, Nat.zero_le _, fun i p h => by simp at h, fun p h => by cases h⟩
  have hlm : len ≤ m := by rw [hmm]; split <;> omega
  by_cases hlen0 : len = 0
  · subst hlen0
    exact ⟨some a, [], cap, rfl, hl, hm, fun i p h => by simp at h, fun p h => by cases h⟩
  obtain ⟨hspot, hblk⟩ : a = ⟨a.block, a.off, none⟩ ∧ a.block < W.heap.size := by
    obtain ⟨cs', h1, h2⟩ := hx 0 (by omega)
    rw [cells_item] at h1
    obtain ⟨_, hlen, hcell⟩ := World.cells?_some h1
    have c0 := hcell 0 (by omega)
    rw [Go.Deep.add_add, Nat.zero_mul, Nat.add_zero] at c0
    match cs', hlen with
    | [v0, v1, v2], _ => exact spot_none (c0.trans rfl)
  obtain ⟨ab, ao, asp⟩ := a
  obtain rfl : asp = none := by injection hspot
  dsimp only at hblk
  have each : ∀ i, i < len → ∃ p : It, (∃ b off, (⟨ab, ao, none⟩ : Addr) = ⟨b, off, none⟩ ∧ b < W.heap.size ∧
      W.cell? ⟨b, off + i * 3, none⟩ = some (.string p.name) ∧ W.cell? ⟨b, off + i * 3 + 1, none⟩ = some (.string p.value) ∧ W.cell? ⟨b, off + i * 3 + 2, none⟩ = some (.bool p.has)) ∧ p.name.size ≤ maxLen ∧ p.value.size ≤ maxLen := by
    intro i hi
    obtain ⟨cs', h1, h2⟩ := hx i (by omega)
    rw [cells_item] at h1
    obtain ⟨_, hlen, hcell⟩ := World.cells?_some h1
    obtain ⟨y0, y1, y2, k, _, _, g0, g1, g2⟩ := Go.Deep.trod_struct3 Tryz.underlying102 h2
    match cs', hlen with
    | [v0, v1, v2], _ =>
      simp [cells_str, cells_bool] at g0 g1 g2
      obtain ⟨s0, e0, _, z0⟩ := DataW.trod_string Tryz.underlying9 g0
      obtain ⟨s1, e1, _, z1⟩ := DataW.trod_string Tryz.underlying9 g1
      obtain ⟨b2, e2, _⟩ := DataW.trod_bool Tryz.underlying4 g2
      simp at e0 e1 e2
      subst e0 e1 e2
      have c0 := hcell 0 (by omega)
      have c1 := hcell 1 (by omega)
      have c2 := hcell 2 (by omega)
      rw [Go.Deep.add_add] at c0 c1 c2
      rw [Addr.add_lit] at c0 c1 c2
      refine ⟨⟨s0, s1, b2⟩, ⟨ab, ao, rfl, hblk, ?_, ?_, ?_⟩, z0, z1⟩
      · simpa using c0
      · simpa [Nat.add_assoc] using c1
      · simpa [Nat.add_assoc] using c2
  haveI : Inhabited It := ⟨⟨ByteArray.empty, ByteArray.empty, false⟩⟩
  obtain ⟨f, hf⟩ := Go.Deep.choose_lt each
  have hlen : ((List.range len).map f).length = len := by simp
  refine ⟨some ⟨ab, ao, none⟩, (List.range len).map f, cap, by rw [hlen], by rw [hlen]; exact hl, hm, fun i p hp => ?_, fun p hp => ?_⟩
  · have hi : i < len := by have := (List.getElem?_eq_some_iff.1 hp).1; simpa using this
    have : p = f i := by simpa [hi] using hp.symm
    subst this
    obtain ⟨⟨b, off, e, h1, h2, h3, h4⟩, _⟩ := hf i hi
    exact ⟨b, off, congrArg some e, h1, h2, h3, h4⟩
  · obtain ⟨i, hi, rfl⟩ := List.mem_map.1 hp
    exact (hf i (by simpa using hi)).2
end Go.Proofs.YtibhohpamnpkcaaGreatDoor

/- A call's contract that keeps the world's shape; the shape gives the library's variable. -/
namespace Go.Proofs.YtibhohpamnpkcaaGreatDoor
open Go.ChangeShapes Go.WideShapes Go.ChangeAt Go.RowKit

section
variable {H : Type} {enc : TypeId × Value → H}
theorem handed_and_shaped {a : Assume} {C : Checked} {os : Os} {f : FuncId} {fn : Func} {s : ChangeSpec} {conds : List PathCond} {apart fresh handsOn again : Bool} {X : World → Array Value → Prop}
    (hX : ∀ (w w' : World) (args : Array Value), w.heap = w'.heap → X w args → X w' args)
    (own : ownKnob C.prog.godebug = none) (started : os.Started) (noInit : C.prog.inits.idxOf? f = none) (hfn : C.prog.funcs[f]? = some fn)
    (witness : ∃ (w : World) (tape : Tape) (i : Input), w.os = os ∧ (w.forCall tape i).Shaped C.prog ∧ i.vars = [] ∧ Input.okWide C.prog (w.forCall tape i) .any w.heap.size f i ∧
      ((s.pre enc C.prog fn conds apart (w.forCall tape i).memory i.args ∧ X (w.forCall tape i).memory i.args) ∧ sizedMet enc C.prog fn (OpenSpec.ofChange s) apart (w.forCall tape i).memory i.args) ∧ a.holds C.prog (lone (Frame.enter C.prog f i.args .normal) [] (w.forCall tape i)))
    (contract : ∀ (W : World) (base : Nat) (args : Array Value) (ds gs : List (DataW H)) (before : List MemPlace),
      (∀ (j : Nat) t v, fn.params[j]? = some t → args[j]? = some v → Value.okWide C.prog W .any base t v) →
      DataW.Whole enc C.prog fn.params.toList s.vars apart W args.toList ds gs before →
      conds.all (PathCond.test C.prog ⟨fn.params.toList, ds, s.plain.varTypes C.prog, gs⟩) = true →
      (DataW.weightsEach C.prog (fn.params.toList ++ s.plain.varTypes C.prog) (ds ++ gs)).all (· ≤ reachBytes) = true → X W args → W.ShapedOpen C.prog →
      a.holds C.prog (lone (Frame.enter C.prog f args .normal) [] W) →
      Calls C.prog f args W fun e W' => ∃ v, e = .returned v ∧ s.post enc C.prog fn apart fresh handsOn again W args v W') :
    ReturnsInHanded a C os f .any (fun w args => (s.pre enc C.prog fn conds apart w args ∧ X w args) ∧ sizedMet enc C.prog fn (OpenSpec.ofChange s) apart w args) (s.post enc C.prog fn apart fresh handsOn again) := by
  refine returnsInHanded_of_calls own started noInit witness ?_
  intro w tape i _ hsh _ hok hpre hholds
  obtain ⟨_, _, _, fn', hfn', _, _, _, _, hval⟩ := hok
  have e : fn' = fn := Option.some.inj (hfn'.symm.trans hfn)
  subst e
  obtain ⟨⟨⟨ds, gs, before, hw, hc⟩, hx⟩, hz⟩ := hpre
  have hw' := DataW.Whole.of_heap (w' := w.forCall tape i) (by rfl) hw
  refine (contract (w.forCall tape i) w.heap.size i.args ds gs before hval hw' hc (hz.weights hw) (hX _ _ _ (by rfl) hx) hsh hholds).mono fun e W' ⟨v, he, hp⟩ => ?_
  subst he
  exact ChangeSpec.post_blind hp
end
theorem maxAt_of_shape {W : World} (h : W.ShapedOpen Tryz.prog) : MaxAt W :=
  cell_of_shapedOpen_int (t := 3) (zero := #[.int .i64 0]) h (of_decide_eq_true (by kernel_rfl)) (by kernel_rfl) (by kernel_rfl) (by kernel_rfl) (by kernel_rfl) (by kernel_rfl)
end Go.Proofs.YtibhohpamnpkcaaGreatDoor

/- What subst's cards ask: the classes, as the program's text lays them; strings that came in. -/
namespace Go.Proofs.YtibhohpamnpkcaaGreatDoor
open Go.ChangeShapes Go.WideShapes Go.RowKit

set_option maxRecDepth 100000 in
theorem open_strsV {H : Type} {enc : TypeId × Value → H} {W : World} {base : Nat} {spare : Nat → Bool} {held : Bool} {fuel : Nat} {cs : List Value} {x : DataW H × List MemPlace} (h : DataW.trod enc Tryz.prog W base spare held fuel 98 cs = some x) :
    ∃ (a : Option Addr) (l : List ByteArray) (cap : Nat), cs = [.slice a l.length cap] ∧ l.length ≤ maxLen ∧ StrsV W (.slice a l.length cap) l := by
  rcases open_strings Tryz.underlying98 Tryz.underlying9 (by kernel_rfl) h with ⟨rfl, _⟩ | ⟨a, len, cap, ss, rfl, _, hl, hm, hz, _, hcell, _⟩
  · exact ⟨none, [], 0, rfl, Nat.zero_le _, ⟨none, 0, rfl, Nat.le_refl _, fun i s h => by simp at h⟩⟩
  have hsl : len ≤ ss.length := by rw [hz]; split <;> omega
  have hlen : (ss.take len).length = len := by rw [List.length_take]; omega
  refine ⟨some a, ss.take len, cap, by rw [hlen], by rw [hlen]; omega, some a, cap, rfl, by rw [hlen]; exact hl, fun i s hs => ?_⟩
  rw [List.getElem?_take] at hs
  split at hs
  · next hi =>
    have c0 := hcell 0 (by omega)
    obtain ⟨hspot, hblk⟩ := spot_none c0
    obtain ⟨ab, ao, asp⟩ := a
    obtain rfl : asp = none := by injection hspot
    refine ⟨ab, ao, rfl, hblk, ?_⟩
    have := hcell i (by omega)
    rw [Addr.add_lit] at this
    rw [this, List.getD, hs]; rfl
  · cases hs
theorem cells_strS : Tryz.prog.cellsOf 9 = 1 := by kernel_rfl
theorem cells_strsS : Tryz.prog.cellsOf 98 = 1 := by kernel_rfl
theorem cells_varS : Tryz.prog.cellsOf 100 = 2 := by kernel_rfl
set_option maxRecDepth 100000 in
theorem open_var {H : Type} {enc : TypeId × Value → H} {W : World} {base : Nat} {spare : Nat → Bool} {held : Bool} {fuel : Nat} {cs : List Value} {x : DataW H × List MemPlace} (h : DataW.trod enc Tryz.prog W base spare held fuel 100 cs = some x) :
    ∃ (a : ByteArray) (pa : Option Addr) (c : Nat) (m : List ByteArray), cs = [.string a, .slice pa m.length c] ∧ a.size ≤ maxLen ∧ m.length ≤ maxLen ∧ StrsV W (.slice pa m.length c) m := by
  obtain ⟨xs, k, _, _, hl, hlen, hf⟩ := DataW.trod_struct Tryz.underlying100 h
  rw [cells_varS] at hl
  match xs, hlen, cs, hl with
  | [y0, y1], _, [v0, v1], _ =>
    have g0 := hf 0 _ rfl
    have g1 := hf 1 _ rfl
    simp [cells_strS, cells_strsS] at g0 g1
    obtain ⟨a, e0, _, z0⟩ := DataW.trod_string Tryz.underlying9 g0
    simp at e0
    subst e0
    obtain ⟨pa, m, c, e2, h1, h2⟩ := open_strsV g1
    simp at e2
    subst e2
    exact ⟨a, pa, c, m, rfl, z0, h1, h2⟩
set_option maxRecDepth 100000 in
theorem class_of_reads {w : World} (h : Lib.VarReads Tryz.prog w "waybill/subst.classes" Rows.laid_waybill_subst_classes) : ClassLaid w := by
  obtain ⟨g, t, cs, fuel, p, hg, hty, hvar, hd⟩ := h
  obtain rfl := Option.some.inj ((show Tryz.prog.globalNamed "waybill/subst.classes" = some 1 by kernel_rfl).symm.trans hg)
  obtain rfl := Option.some.inj ((show (Tryz.prog.globals[1]?).map (·.type) = some 297 by kernel_rfl).symm.trans hty)
  have e : (Rows.laid_waybill_subst_classes : DataW Unit) = .agg (clsT.map fun c => .agg [.lit (.string c.1.data.toList), .lit (.string c.2.1.data.toList), .lit (.int .i64 (c.2.2 : Nat))]) := by kernel_rfl
  rw [e] at hd
  have hc : Tryz.prog.cellsOf 261 = 3 := by kernel_rfl
  have h1 : Tryz.prog.cellsOf 3 = 1 := by kernel_rfl
  have hs1 : Tryz.prog.cellsOf 9 = 1 := by kernel_rfl
  have each : ∀ i x, clsT[i]? = some x → w.cell? ⟨1, i * 3, none⟩ = some (.string x.1) ∧ w.cell? ⟨1, i * 3 + 1, none⟩ = some (.string x.2.1) ∧ w.cell? ⟨1, i * 3 + 2, none⟩ = some (.int .i64 (x.2.2 : Nat)) := by
    intro i x hx
    have hi : i < 8 := (List.getElem?_eq_some_iff.1 hx).1
    obtain ⟨fuel', d, q, hdi, he⟩ := Lib.array_elem Tryz.underlying297 hd i hi
    rw [List.getElem?_map, hx] at hdi
    simp only [Option.map_some, Option.some.injEq] at hdi
    subst hdi
    rw [hc] at he
    obtain ⟨y0, y1, y2, n, hy, _, g0, g1, g2⟩ := Go.Deep.trod_struct3 Tryz.underlying261 he
    simp only [hs1, h1] at g0 g1 g2
    obtain ⟨s0, e0, rfl, _⟩ := DataW.trod_string Tryz.underlying9 g0
    obtain ⟨s1, e1, rfl, _⟩ := DataW.trod_string Tryz.underlying9 g1
    obtain ⟨z2, e2, rfl, _⟩ := DataW.trod_int Tryz.underlying3 g2
    simp only [Prod.mk.injEq, DataW.agg.injEq, List.cons.injEq, DataW.lit.injEq, Lit.string.injEq, Lit.int.injEq, and_true, true_and] at hy
    obtain ⟨⟨k0, k1, k2⟩, _⟩ := hy
    have r0 : s0 = x.1 := by
      apply ByteArray.ext; apply Array.ext'; exact k0.symm
    have r1 : s1 = x.2.1 := by
      apply ByteArray.ext; apply Array.ext'; exact k1.symm
    subst r0 r1
    have c0 := congrArg (·[0]?) e0
    have c1 := congrArg (·[0]?) e1
    have c2 := congrArg (·[0]?) e2
    simp only [List.getElem?_take, List.getElem?_drop] at c0 c1 c2
    refine ⟨?_, ?_, ?_⟩
    · rw [World.var?_cell hg hvar (i * 3), ← Array.getElem?_toList]
      simpa using c0
    · rw [World.var?_cell hg hvar (i * 3 + 1), ← Array.getElem?_toList]
      simpa using c1
    · rw [World.var?_cell hg hvar (i * 3 + 2), ← Array.getElem?_toList]
      rw [k2]
      simpa using c2
  refine ⟨World.block_lt_of_cell? w _ (each 0 _ rfl).1, fun i x hx => ?_⟩
  simp only [Nat.zero_add]
  exact each i x hx
end Go.Proofs.YtibhohpamnpkcaaGreatDoor

/- A slice of variables that came in. -/
namespace Go.Proofs.YtibhohpamnpkcaaGreatDoor
open Go.RowKit Go.ChangeShapes Go.WideShapes

set_option maxRecDepth 100000 in
theorem open_vars {H : Type} {enc : TypeId × Value → H} {W : World} {base : Nat} {spare : Nat → Bool} {held : Bool} {fuel : Nat} {cs : List Value} {x : DataW H × List MemPlace} (h : DataW.trod enc Tryz.prog W base spare held fuel 53 cs = some x) :
    ∃ (a : Option Addr) (l : List SVar) (cap : Nat), cs = [.slice a l.length cap] ∧ l.length ≤ maxLen ∧ VarsSl W a l ∧ ∀ v ∈ l, v.1.size ≤ maxLen ∧ v.2.length ≤ maxLen := by
  rcases Go.Deep.open_slice Tryz.underlying53 h with ⟨rfl, _⟩ | ⟨a, len, cap, m, n, D, Pl, rfl, hb, hl, hm, hmm, _, hx⟩
  · exact ⟨none, [], 0, rfl, Nat.zero_le _, ⟨[], fun i v h => by simp at h, rfl, fun i v h => by simp at h⟩, fun v h => by cases h⟩
  have hlm : len ≤ m := by rw [hmm]; split <;> omega
  by_cases hlen0 : len = 0
  · subst hlen0
    exact ⟨some a, [], cap, rfl, Nat.zero_le _, ⟨[], fun i v h => by simp at h, rfl, fun i v h => by simp at h⟩, fun v h => by cases h⟩
  obtain ⟨hspot, hblk⟩ : a = ⟨a.block, a.off, none⟩ ∧ a.block < W.heap.size := by
    obtain ⟨cs', h1, h2⟩ := hx 0 (by omega)
    rw [cells_varS] at h1
    obtain ⟨_, hlen, hcell⟩ := World.cells?_some h1
    have c0 := hcell 0 (by omega)
    rw [Go.Deep.add_add, Nat.zero_mul, Nat.add_zero] at c0
    match cs', hlen with
    | [v0, v1], _ => exact spot_none (c0.trans rfl)
  obtain ⟨ab, ao, asp⟩ := a
  obtain rfl : asp = none := by injection hspot
  dsimp only at hblk
  have each : ∀ i, i < len → ∃ p : SVar × Value, (W.cell? ⟨ab, ao + i * 2, none⟩ = some (.string p.1.1) ∧ W.cell? ⟨ab, ao + i * 2 + 1, none⟩ = some p.2 ∧ StrsV W p.2 p.1.2) ∧ p.1.1.size ≤ maxLen ∧ p.1.2.length ≤ maxLen := by
    intro i hi
    obtain ⟨cs', h1, h2⟩ := hx i (by omega)
    rw [cells_varS] at h1
    obtain ⟨_, hlen, hcell⟩ := World.cells?_some h1
    obtain ⟨s, pa, c, mm, rfl, z0, z1, hs⟩ := open_var h2
    have c0 := hcell 0 (by omega)
    have c1 := hcell 1 (by omega)
    rw [Go.Deep.add_add] at c0 c1
    rw [Addr.add_lit] at c0 c1
    refine ⟨((s, mm), .slice pa mm.length c), ⟨?_, ?_, hs⟩, z0, z1⟩
    · simpa using c0
    · simpa [Nat.add_assoc] using c1
  haveI : Inhabited (SVar × Value) := ⟨((ByteArray.empty, []), .bool false)⟩
  obtain ⟨f, hf⟩ := Go.Deep.choose_lt each
  have hlen : ((List.range len).map fun i => (f i).1).length = len := by simp
  refine ⟨some ⟨ab, ao, none⟩, (List.range len).map fun i => (f i).1, cap, by rw [hlen], by rw [hlen]; omega, ⟨(List.range len).map fun i => ((f i).1.1, (f i).2), fun i p hp => ?_, by simp, fun i p hp => ?_⟩, fun p hp => ?_⟩
  · have hi : i < len := by have := (List.getElem?_eq_some_iff.1 hp).1; simpa using this
    have : p = ((f i).1.1, (f i).2) := by simpa [hi] using hp.symm
    subst this
    obtain ⟨⟨h1, h2, _⟩, _⟩ := hf i hi
    exact ⟨ab, ao, rfl, hblk, h1, h2⟩
  · have hi : i < len := by have := (List.getElem?_eq_some_iff.1 hp).1; simpa using this
    have : p = (f i).1 := by simpa [hi] using hp.symm
    subst this
    exact ⟨(f i).2, by simp [hi], (hf i hi).1.2.2⟩
  · obtain ⟨i, hi, rfl⟩ := List.mem_map.1 hp
    exact (hf i (by simpa using hi)).2
end Go.Proofs.YtibhohpamnpkcaaGreatDoor

/- Associations, apps, URLs and rules that came in. -/
namespace Go.Proofs.YtibhohpamnpkcaaGreatDoor
open Go.RowKit Go.ChangeShapes Go.WideShapes

theorem cells_appR : Tryz.prog.cellsOf 57 = 2 := by kernel_rfl
theorem cells_ruleR : Tryz.prog.cellsOf 62 = 10 := by kernel_rfl
theorem cells_dtR : Tryz.prog.cellsOf 70 = 2 := by kernel_rfl
theorem cells_asR : Tryz.prog.cellsOf 55 = 2 := by kernel_rfl
theorem cells_urlR : Tryz.prog.cellsOf 59 = 9 := by kernel_rfl
theorem cells_hostR : Tryz.prog.cellsOf 33 = 2 := by kernel_rfl
theorem cells_intR2 : Tryz.prog.cellsOf 3 = 1 := by kernel_rfl
theorem cells_sl60 : Tryz.prog.cellsOf 60 = 1 := by kernel_rfl
theorem cells_sl67 : Tryz.prog.cellsOf 67 = 1 := by kernel_rfl
theorem cells_sl68 : Tryz.prog.cellsOf 68 = 1 := by kernel_rfl
theorem cells_sl52 : Tryz.prog.cellsOf 52 = 1 := by kernel_rfl
theorem cells_sl53 : Tryz.prog.cellsOf 53 = 1 := by kernel_rfl
section
variable {H : Type} {enc : TypeId × Value → H} {W : World} {base : Nat} {spare : Nat → Bool} {held : Bool} {fuel : Nat} {cs : List Value} {x : DataW H × List MemPlace}
set_option maxRecDepth 100000 in
theorem open_appid (h : DataW.trod enc Tryz.prog W base spare held fuel 57 cs = some x) : ∃ p : ByteArray × ByteArray, cs = [.string p.1, .string p.2] := by
  obtain ⟨xs, k, _, _, hl, hlen, hf⟩ := DataW.trod_struct Tryz.underlying57 h
  rw [cells_appR] at hl
  match xs, hlen, cs, hl with
  | [y0, y1], _, [v0, v1], _ =>
    have g0 := hf 0 _ rfl
    have g1 := hf 1 _ rfl
    simp [cells_str] at g0 g1
    obtain ⟨a, e0, _⟩ := DataW.trod_string Tryz.underlying9 g0
    obtain ⟨b, e1, _⟩ := DataW.trod_string Tryz.underlying9 g1
    simp at e0 e1
    subst e0 e1
    exact ⟨(a, b), rfl⟩
theorem open_apps (h : DataW.trod enc Tryz.prog W base spare held fuel 67 cs = some x) : ∃ (a : Option Addr) (l : List (ByteArray × ByteArray)) (cap : Nat), cs = [.slice a l.length cap] ∧ l.length ≤ maxLen ∧ AppsSl W a l := by
  haveI : Inhabited (ByteArray × ByteArray) := ⟨(ByteArray.empty, ByteArray.empty)⟩
  obtain ⟨a, l, cap, e, hl, hall⟩ := open_rows Tryz.underlying67 cells_appR (by decide) (fun cs (p : ByteArray × ByteArray) => cs = [.string p.1, .string p.2]) (fun _ _ _ h => open_appid h) h
  refine ⟨a, l, cap, e, hl, fun i p hp => ?_⟩
  obtain ⟨b, off, cs', ea, hb, hc, rfl⟩ := hall i p hp
  exact ⟨b, off, ea, hb, (hc 0 (by decide)).trans rfl, (hc 1 (by decide)).trans rfl⟩
set_option maxRecDepth 100000 in
theorem open_rule (h : DataW.trod enc Tryz.prog W base spare held fuel 62 cs = some x) : ∃ r : Ru, cs = rlC r.r ∧ r.r.ilen = r.items.length ∧ ItemsSl W r.r.ia r.items ∧ RuM r := by
  obtain ⟨xs, k, _, _, hl, hlen, hf⟩ := DataW.trod_struct Tryz.underlying62 h
  rw [cells_ruleR] at hl
  match xs, hlen, cs, hl with
  | [y0, y1, y2, y3, y4, y5, y6, y7, y8, y9], _, [v0, v1, v2, v3, v4, v5, v6, v7, v8, v9], _ =>
    have g0 := hf 0 _ rfl
    have g1 := hf 1 _ rfl
    have g2 := hf 2 _ rfl
    have g3 := hf 3 _ rfl
    have g4 := hf 4 _ rfl
    have g5 := hf 5 _ rfl
    have g6 := hf 6 _ rfl
    have g7 := hf 7 _ rfl
    have g8 := hf 8 _ rfl
    have g9 := hf 9 _ rfl
    simp [cells_str, cells_bool, cells_sl60] at g0 g1 g2 g3 g4 g5 g6 g7 g8 g9
    obtain ⟨a0, e0, _, z0⟩ := DataW.trod_string Tryz.underlying9 g0
    obtain ⟨a1, e1, _, z1⟩ := DataW.trod_string Tryz.underlying9 g1
    obtain ⟨a2, e2, _, z2⟩ := DataW.trod_string Tryz.underlying9 g2
    obtain ⟨a3, e3, _⟩ := DataW.trod_bool Tryz.underlying4 g3
    obtain ⟨a4, e4, _⟩ := DataW.trod_bool Tryz.underlying4 g4
    obtain ⟨a5, e5, _⟩ := DataW.trod_bool Tryz.underlying4 g5
    obtain ⟨pa, m, c, e6, h1, h2, h3, h4⟩ := open_items g6
    obtain ⟨a7, e7, _⟩ := DataW.trod_bool Tryz.underlying4 g7
    obtain ⟨a8, e8, _⟩ := DataW.trod_bool Tryz.underlying4 g8
    obtain ⟨a9, e9, _⟩ := DataW.trod_bool Tryz.underlying4 g9
    simp at e0 e1 e2 e3 e4 e5 e6 e7 e8 e9
    subst e0 e1 e2 e3 e4 e5 e6 e7 e8 e9
    unfold maxLen at *
    exact ⟨⟨⟨a0, a1, a2, a3, a4, a5, pa, m.length, c, a7, a8, a9⟩, m⟩, rfl, rfl, h3, ⟨by show a0.size ≤ _; omega, by show a1.size ≤ _; omega, by show a2.size ≤ _; omega, by show m.length ≤ _; omega, fun i hi => by have := h4 i hi; unfold maxLen at this; exact ⟨by omega, by omega⟩⟩⟩
theorem open_rules (h : DataW.trod enc Tryz.prog W base spare held fuel 68 cs = some x) : ∃ (a : Option Addr) (l : List Ru) (cap : Nat), cs = [.slice a l.length cap] ∧ l.length ≤ maxLen ∧ RulesSl W a l ∧ ∀ r ∈ l, RuM r := by
  haveI : Inhabited Ru := ⟨⟨⟨ByteArray.empty, ByteArray.empty, ByteArray.empty, false, false, false, none, 0, 0, false, false, false⟩, []⟩⟩
  obtain ⟨a, l, cap, e, hl, hall⟩ := open_rows Tryz.underlying68 cells_ruleR (by decide) (fun cs (r : Ru) => cs = rlC r.r ∧ r.r.ilen = r.items.length ∧ ItemsSl W r.r.ia r.items ∧ RuM r) (fun _ _ _ h => open_rule h) h
  refine ⟨a, l, cap, e, hl, fun i r hr => ?_, fun r hr => ?_⟩
  · obtain ⟨b, off, cs', ea, hb, hc, rfl, h1, h2, h3⟩ := hall i r hr
    refine ⟨b, off, ea, hb, fun j v hj => ?_, h1, h2⟩
    have hj10 : j < 10 := (List.getElem?_eq_some_iff.1 hj).1
    exact (hc j hj10).trans hj
  · obtain ⟨i, hi⟩ := List.getElem?_of_mem hr
    obtain ⟨b, off, cs', ea, hb, hc, e, h1, h2, h3⟩ := hall i r hi
    exact h3
/-- A detail's cells, and what they are. -/
structure DtIn (W : World) (cs : List Value) (q : Dt × (Value × Value)) : Prop where
  cs : cs = [q.2.1, q.2.2]
  v : DtV W q.2 q.1
  a : q.1.apps.length ≤ maxLen
  r : q.1.rules.length ≤ maxLen
  x : ∀ r ∈ q.1.rules, RuM r
set_option maxRecDepth 100000 in
theorem open_detail (h : DataW.trod enc Tryz.prog W base spare held fuel 70 cs = some x) : ∃ q, DtIn W cs q := by
  obtain ⟨xs, k, _, _, hl, hlen, hf⟩ := DataW.trod_struct Tryz.underlying70 h
  rw [cells_dtR] at hl
  match xs, hlen, cs, hl with
  | [y0, y1], _, [v0, v1], _ =>
    have g0 := hf 0 _ rfl
    have g1 := hf 1 _ rfl
    simp [cells_sl67, cells_sl68] at g0 g1
    obtain ⟨a, l, c, e0, z0, s0⟩ := open_apps g0
    obtain ⟨a', l', c', e1, z1, s1, m1⟩ := open_rules g1
    simp at e0 e1
    subst e0 e1
    exact ⟨(⟨l, l'⟩, (.slice a l.length c, .slice a' l'.length c')), ⟨rfl, ⟨⟨_, _, rfl, s0⟩, ⟨_, _, rfl, s1⟩⟩, z0, z1, m1⟩⟩
theorem open_details (h : DataW.trod enc Tryz.prog W base spare held fuel 52 cs = some x) : ∃ (a : Option Addr) (l : List Dt) (cap : Nat), cs = [.slice a l.length cap] ∧ DetsM W a l := by
  haveI : Inhabited (Dt × (Value × Value)) := ⟨(⟨[], []⟩, (.bool false, .bool false))⟩
  obtain ⟨a, l, cap, e, hl, hall⟩ := open_rows Tryz.underlying52 cells_dtR (by decide) (fun cs q => DtIn W cs q) (fun _ _ _ h => open_detail h) h
  have each : ∀ d ∈ l.map (·.1), d.apps.length ≤ maxLen ∧ d.rules.length ≤ maxLen ∧ ∀ r ∈ d.rules, RuM r := by
    intro d hd
    obtain ⟨q, hq, rfl⟩ := List.mem_map.1 hd
    obtain ⟨i, hi⟩ := List.getElem?_of_mem hq
    obtain ⟨b, off, cs', ea, hb, hc, hin⟩ := hall i q hi
    exact ⟨hin.a, hin.r, hin.x⟩
  unfold maxLen at hl each
  refine ⟨a, l.map (·.1), cap, by rw [e, List.length_map], ⟨⟨l.map (·.2), fun i u hu => ?_, by simp, fun i d hd => ?_⟩, by rw [List.length_map]; omega, fun d hd => by have := (each d hd).1; omega, fun d hd => by have := (each d hd).2.1; omega, fun d hd => (each d hd).2.2⟩⟩
  · rw [List.getElem?_map] at hu
    obtain ⟨q, hq, rfl⟩ := Option.map_eq_some_iff.1 hu
    obtain ⟨b, off, cs', ea, hb, hc, hin⟩ := hall i q hq
    have he := hin.cs
    subst he
    exact ⟨b, off, ea, hb, (hc 0 (by decide)).trans rfl, (hc 1 (by decide)).trans rfl⟩
  · rw [List.getElem?_map] at hd
    obtain ⟨q, hq, rfl⟩ := Option.map_eq_some_iff.1 hd
    obtain ⟨b, off, cs', ea, hb, hc, hin⟩ := hall i q hq
    exact ⟨q.2, by rw [List.getElem?_map, hq]; rfl, hin.v⟩
set_option maxRecDepth 100000 in
theorem open_assoc (h : DataW.trod enc Tryz.prog W base spare held fuel 55 cs = some x) : ∃ (da : Option Addr) (ds : List Dt) (dcap : Nat) (av : Option Addr) (vars : List SVar) (vcap : Nat), cs = [.slice da ds.length dcap, .slice av vars.length vcap] ∧ DetsM W da ds ∧ vars.length ≤ maxLen ∧ VarsSl W av vars ∧ ∀ v ∈ vars, v.1.size ≤ maxLen ∧ v.2.length ≤ maxLen := by
  obtain ⟨xs, k, _, _, hl, hlen, hf⟩ := DataW.trod_struct Tryz.underlying55 h
  rw [cells_asR] at hl
  match xs, hlen, cs, hl with
  | [y0, y1], _, [v0, v1], _ =>
    have g0 := hf 0 _ rfl
    have g1 := hf 1 _ rfl
    simp [cells_sl52, cells_sl53] at g0 g1
    obtain ⟨a, l, c, e0, s0⟩ := open_details g0
    obtain ⟨a', l', c', e1, z1, s1, m1⟩ := open_vars g1
    simp at e0 e1
    subst e0 e1
    exact ⟨a, l, c, a', l', c', rfl, s0, z1, s1, m1⟩
set_option maxRecDepth 100000 in
theorem open_hostR (h : DataW.trod enc Tryz.prog W base spare held fuel 33 cs = some x) : ∃ (k : Int) (t : ByteArray), cs = [.int .i64 k, .string t] := by
  obtain ⟨xs, k, _, _, hl, hlen, hf⟩ := DataW.trod_struct Tryz.underlying33 h
  rw [cells_hostR] at hl
  match xs, hlen, cs, hl with
  | [y0, y1], _, [v0, v1], _ =>
    have g0 := hf 0 _ rfl
    have g1 := hf 1 _ rfl
    simp [cells_str, cells_intR2] at g0 g1
    obtain ⟨a, e0, _⟩ := DataW.trod_int Tryz.underlying3 g0
    obtain ⟨b, e1, _⟩ := DataW.trod_string Tryz.underlying9 g1
    simp at e0 e1
    subst e0 e1
    exact ⟨a, b, rfl⟩
set_option maxRecDepth 100000 in
theorem open_url (h : DataW.trod enc Tryz.prog W base spare held fuel 59 cs = some x) : ∃ u : Ur, cs = (urA u).toList ∧ u.path.size ≤ maxLen ∧ u.query.size ≤ maxLen ∧ u.frag.size ≤ maxLen := by
  obtain ⟨xs, k, _, _, hl, hlen, hf⟩ := DataW.trod_struct Tryz.underlying59 h
  rw [cells_urlR] at hl
  match xs, hlen, cs, hl with
  | [y0, y1, y2, y3, y4, y5, y6, y7], _, [v0, v1, v2, v3, v4, v5, v6, v7, v8], _ =>
    have g0 := hf 0 _ rfl
    have g1 := hf 1 _ rfl
    have g2 := hf 2 _ rfl
    have g3 := hf 3 _ rfl
    have g4 := hf 4 _ rfl
    have g5 := hf 5 _ rfl
    have g6 := hf 6 _ rfl
    have g7 := hf 7 _ rfl
    simp [cells_str, cells_bool, cells_intR2, cells_hostR] at g0 g1 g2 g3 g4 g5 g6 g7
    obtain ⟨a0, e0, _⟩ := DataW.trod_string Tryz.underlying9 g0
    obtain ⟨hk, ht, e1⟩ := open_hostR g1
    obtain ⟨a2, e2, _⟩ := DataW.trod_int Tryz.underlying3 g2
    obtain ⟨a3, e3, _, z3⟩ := DataW.trod_string Tryz.underlying9 g3
    obtain ⟨a4, e4, _, z4⟩ := DataW.trod_string Tryz.underlying9 g4
    obtain ⟨a5, e5, _, z5⟩ := DataW.trod_string Tryz.underlying9 g5
    obtain ⟨a6, e6, _⟩ := DataW.trod_bool Tryz.underlying4 g6
    obtain ⟨a7, e7, _⟩ := DataW.trod_bool Tryz.underlying4 g7
    simp at e0 e1 e2 e3 e4 e5 e6 e7
    obtain ⟨e11, e12⟩ := e1
    subst e0 e11 e12 e2 e3 e4 e5 e6 e7
    exact ⟨⟨a0, hk, ht, a2, a3, a4, a5, a6, a7⟩, rfl, z3, z4, z5⟩
end
end Go.Proofs.YtibhohpamnpkcaaGreatDoor
