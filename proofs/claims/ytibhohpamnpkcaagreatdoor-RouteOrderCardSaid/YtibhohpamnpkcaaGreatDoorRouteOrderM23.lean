/- subst.own, Own: the variables that there are always. -/
import Derived.Test.YtibhohpamnpkcaaGreatDoorRouteOrderM22
import Derived.Test.YtibhohpamnpkcaaGreatDoorRouteOrderM1
import Derived.Laws.ResultCell
import Derived.Laws.Tables
import Derived.Test.YtibhohpamnpkcaaGreatDoorRouteOrderM21
import Derived.Test.YtibhohpamnpkcaaGreatDoorRouteOrderM10
import Derived.Test.YtibhohpamnpkcaaGreatDoorRouteOrderM6
import Derived.Test.YtibhohpamnpkcaaGreatDoorRouteOrderM20
import Derived.Test.YtibhohpamnpkcaaGreatDoorRouteOrderM5
import Derived.Laws.OwnMore
import Derived.Deep.OwnRows
import Derived.Test.YtibhohpamnpkcaaGreatDoorRouteOrderM9

namespace Go.Proofs.YtibhohpamnpkcaaGreatDoor
open Go.RowKit

/-- The classes of package subst, as its text lays them. -/
def ClassLaid (w : World) : Prop := ClsAt w 1 0 clsT
theorem ClassLaid.below {w w' : World} (h : ClassLaid w) (hb : Below w.heap.size w w') : ClassLaid w' := ClsAt.below h hb
def clsV (x : ByteArray × ByteArray × Nat) : Value := .agg #[.string x.1, .string x.2.1, .int .i64 (x.2.2 : Nat)]
set_option maxHeartbeats 800000 in
theorem own_fn (q : Nat) (s : ByteArray) (l : List (ByteArray × ByteArray × Nat)) (w : World) (hq : q < w.heap.size) (hs : w.cell? ⟨q, 0, none⟩ = some (.string s)) :
    TestCls w 186 #[.pointer (some ⟨q, 0, none⟩)] (fun x => decide (x.1 = s)) l := by
  intro W x _ hb
  have hc := (hb.cell (p := ⟨q, 0, none⟩) hq).trans hs
  obtain ⟨xn, xa, xz⟩ := x
  have he := str_eqB xn s
  have hal : Below W.heap.size W (W.alloc (.cells #[.string xn, .string xa, .int .i64 (xz : Nat)] 261)) := (Below.refl _ _).alloc (Nat.le_refl _) _
  have hlt := Nat.lt_of_lt_of_le hq hb.size
  show Calls Tryz.prog _ #[.agg #[.string xn, .string xa, .int .i64 (xz : Nat)], .pointer (some ⟨q, 0, none⟩)] W _
  clear hs hq hb
  simp only
  generalize decide (xn = s) = r at *
  go_enter Tryz.func186, Tryz.ntmps186
  go_wp2_with fail
  go_ret
  exact ⟨ret_bool rfl, hal⟩
theorem own_cases (s : ByteArray) : (findG (fun x => decide (x.1 = s)) clsT = -1 ∧ ownC s = none) ∨ ∃ i x, findG (fun x => decide (x.1 = s)) clsT = ((i : Nat) : Int) ∧ i < 8 ∧ clsT[i]? = some x ∧ ownC s = some x.2 := by
  unfold ownC findG
  cases h : clsT.findIdx? (fun x => decide (x.1 = s)) with
  | none =>
    refine .inl ⟨rfl, ?_⟩
    rw [List.findIdx?_eq_none_iff] at h
    rw [List.find?_eq_none.2 (fun x hx => by simpa using h x hx)]
    rfl
  | some i =>
    obtain ⟨hi, h1, h2⟩ := List.findIdx?_eq_some_iff_getElem.1 h
    have hx : clsT[i]? = some clsT[i] := List.getElem?_eq_getElem hi
    refine .inr ⟨i, clsT[i], rfl, hi, hx, ?_⟩
    have : clsT.find? (fun x => decide (x.1 = s)) = some clsT[i] := by
      rw [List.find?_eq_some_iff_getElem]
      exact ⟨h1, i, hi, rfl, fun j hj => by simpa using h2 j hj⟩
    rw [this]; rfl
theorem info_cls : (Tryz.prog.info? 261).map (·.size) = some 3 := by kernel_rfl
theorem load_cls {w : World} {g : Nat} {x y z : Value} (h : w.heap[g]? = some (.cells #[x, y, z] 261 (0, 0))) : (loadVar 261 ⟨g, 0, none⟩).run Tryz.prog w = .ok (.agg #[x, y, z]) w :=
  run_loadVar_row w g _ _ _ _ _ h Tryz.underlying261 rfl (by rw [info_cls]; rfl)
theorem results_cls {fn : Func} {p u : Tmp} {tmps : Array Value} {w : World} {g : Nat} {x y z : Value} (h : fn.results = #[.cell p 261, .tmp u]) (hp : tmps.getD p undef = .pointer (some ⟨g, 0, none⟩)) (hg : w.heap[g]? = some (.cells #[x, y, z] 261 (0, 0))) :
    (results fn tmps).run Tryz.prog w = .ok (.tuple #[.agg #[x, y, z], tmps.getD u undef]) w := by
  rw [results_cell_tmp h, hp]
  simp [asAddr, Result.andThen, load_cls hg]
theorem below_setRow8 {B : Nat} {a w : World} (h : Below B a w) {g : Nat} (hg : B ≤ g) (cs : Array Value) : Below B a (w.setRow g cs) :=
  ⟨h.os, h.tape, h.output, by simpa using h.size, fun k hk => (setRow_other w g k cs (by omega)).trans (h.block k hk)⟩
theorem all_cls (n a : ByteArray) (z : Int) : (#[Value.string n, .string a, .int .i64 z] : Array Value).all (·.oneCell') = true := by simp [Value.oneCell']
theorem wpList_store_cls {w : World} {ops : Array Oper} {rest : List Oper} {o : Oper} {a : Act} {Q : Exit → Act → World → Prop} (hgd : o.guard = none) (x y : Operand) (ho : o.op = .store 261 x y) (g : Nat) (n am : ByteArray) (z : Int) (hx : a.eval x = .pointer (some ⟨g, 0, none⟩)) (hy : a.eval y = .agg #[.string n, .string am, .int .i64 z])
    (u v q : Value) (hg : w.heap[g]? = some (.cells #[u, v, q] 261 (0, 0))) (h : wpList Tryz.prog ops Q rest (a.put o.dst undef) (w.setRow g #[.string n, .string am, .int .i64 z])) : wpList Tryz.prog ops Q (o :: rest) a w :=
  wpList_store_row hgd _ x y ho g _ hx hy _ _ hg (by rw [info_cls]; rfl) rfl (all_cls n am z) h
def OwnPost (s : ByteArray) (e : Ending) : Prop := (ownC s = none ∧ e = .returned (.tuple #[.agg #[.string ⟨#[]⟩, .string ⟨#[]⟩, .int .i64 0], .bool false])) ∨ ∃ n am sz, ownC s = some (am, sz) ∧ 1 ≤ sz ∧ sz ≤ 2 ∧ e = .returned (.tuple #[.agg #[.string n, .string am, .int .i64 ((sz : Nat) : Int)], .bool true])
theorem cls_size : ∀ x ∈ clsT, 1 ≤ x.2.2 ∧ x.2.2 ≤ 2 := by decide
set_option maxHeartbeats 1600000 in
set_option maxRecDepth 100000 in
theorem sub_own (s : ByteArray) (w : World) (hL : ClassLaid w) : Calls Tryz.prog 157 #[.string s] w fun e w' => OwnPost s e ∧ Below w.heap.size w w' := by
  have hst1 : Below w.heap.size w (w.alloc (.cells #[.string s] 9)) := (Below.refl _ _).alloc (Nat.le_refl _) _
  have hst2 : Below w.heap.size w ((w.alloc (.cells #[.string s] 9)).alloc (.cells #[.string ⟨#[]⟩, .string ⟨#[]⟩, .int .i64 0] 261)) := hst1.alloc (by simp) _
  have hq : ((w.alloc (.cells #[.string s] 9)).alloc (.cells #[.string ⟨#[]⟩, .string ⟨#[]⟩, .int .i64 0] 261)).cell? ⟨w.heap.size, 0, none⟩ = some (.string s) := by simp
  have cI' := cls_IndexFunc 1 0 8 clsT 186 #[.pointer (some ⟨w.heap.size, 0, none⟩)] (fun x => decide (x.1 = s)) _ (hL.below hst2) (by decide) (enters_of Tryz.func186 (by kernel_rfl) rfl) (own_fn w.heap.size s clsT _ (by simp; omega) hq)
  have cI : Calls Tryz.prog 185 #[.slice (some ⟨1, 0, none⟩) 8 8, .func (.func 186) #[] #[.pointer (some ⟨w.heap.size, 0, none⟩)]] _ _ := cI'
  have CI := Lib.hid cI
  have hoc := own_cases s
  clear cI cI' hst1 hq
  go_enter Tryz.func157, Tryz.ntmps157
  go_wp2_with fail
  refine CI.out.mono ?_
  rintro e w2 ⟨rfl, hb2⟩
  have hz0 := heap_alloc_new (w.alloc (.cells #[.string s] 9)) (.cells #[.string ⟨#[]⟩, .string ⟨#[]⟩, .int .i64 0] 261)
  rw [World.size_alloc] at hz0
  have hz := (hb2.block (w.heap.size + 1) (by simp)).trans hz0
  have hb02 := Bt hst2 hb2
  have hL2 := hL.below hb02
  clear hz0 hb2 hst2 CI hL
  rcases hoc with ⟨h1, h2⟩ | ⟨i, x, h1, h2, h3, h4⟩
  · rw [h1]
    have H2 := Lib.hid h2
    clear h1 h2
    go_wp2_with (refine wpList_store_cls (o := ⟨none, _, _, _, _, _⟩) rfl _ _ rfl (w.heap.size + 1) ⟨#[]⟩ ⟨#[]⟩ 0 rfl rfl _ _ _ hz ?_)
    (try simp only [Exit.inBlock, Exit.then])
    refine bodyPost_ret (results_cls rfl rfl (setRow_heap w2 (w.heap.size + 1) _ _ _ _ hz)) rfl ?_
    exact ⟨.inl ⟨H2.out, rfl⟩, below_setRow8 hb02 (by omega) _⟩
  · rw [h1]
    obtain ⟨d0, d1, d2⟩ := hL2.2 i x h3
    have hzz := cls_size x (List.mem_of_getElem? h3)
    have hgl := hL2.1
    obtain ⟨xn, xa, xz⟩ := x
    simp only [Nat.zero_add] at d0 d1 d2
    have hi : (i : Int) < 8 := by omega
    have H4 := Lib.hid h4
    have HZ := Lib.hid hzz
    clear h1 h3 h4 hL2 hzz
    have hz' : (w2.setRow (w.heap.size + 1) #[.string xn, .string xa, .int .i64 (xz : Nat)]).heap[w.heap.size + 1]? = _ := setRow_heap w2 (w.heap.size + 1) _ #[.string xn, .string xa, .int .i64 (xz : Nat)] _ _ hz
    have HZ' := Lib.hid hz'
    clear hz'
    go_wp2_with (refine wpList_store_cls (o := ⟨none, _, _, _, _, _⟩) rfl _ _ rfl (w.heap.size + 1) xn xa (xz : Nat) rfl rfl _ _ _ hz ?_)
    (try simp only [Exit.inBlock, Exit.then])
    refine bodyPost_ret (results_cls rfl rfl HZ'.out) rfl ?_
    exact ⟨.inr ⟨_, _, _, H4.out, HZ.out.1, HZ.out.2, rfl⟩, below_setRow8 hb02 (by omega) _⟩
end Go.Proofs.YtibhohpamnpkcaaGreatDoor

/- subst.Own, values. -/
namespace Go.Proofs.YtibhohpamnpkcaaGreatDoor
open Go.RowKit

set_option maxHeartbeats 800000 in
theorem sub_Own (s : ByteArray) (w : World) (hL : ClassLaid w) : Calls Tryz.prog 151 #[.string s] w fun e w' => e = .returned (.bool (ownC s).isSome) ∧ Below w.heap.size w w' := by
  go_enter Tryz.func151, Tryz.ntmps151
  go_wp2_with fail
  refine (sub_own s _ hL).mono ?_
  rintro e w2 ⟨h, hb2⟩
  rcases h with ⟨h1, rfl⟩ | ⟨n, am, sz, h1, _, _, rfl⟩
  · have hal : Below w2.heap.size w2 (w2.alloc (.cells #[.string ⟨#[]⟩, .string ⟨#[]⟩, .int .i64 0] 261)) := (Below.refl _ _).alloc (Nat.le_refl _) _
    have hb3 := Bt hb2 hal
    have H := Lib.hid (show (ownC s).isSome = false by rw [h1]; rfl)
    clear h1 hb2 hal
    go_wp2_with fail
    go_ret
    exact ⟨ret_bool H.out.symm, hb3⟩
  · have hal : Below w2.heap.size w2 (w2.alloc (.cells #[.string n, .string am, .int .i64 (sz : Int)] 261)) := (Below.refl _ _).alloc (Nat.le_refl _) _
    have hb3 := Bt hb2 hal
    have H := Lib.hid (show (ownC s).isSome = true by rw [h1]; rfl)
    clear h1 hb2 hal
    go_wp2_with fail
    go_ret
    exact ⟨ret_bool H.out.symm, hb3⟩
set_option maxHeartbeats 800000 in
theorem val_fn (q : Nat) (s : ByteArray) (l : List (ByteArray × Value)) (w : World) (hq : q < w.heap.size) (hs : w.cell? ⟨q, 0, none⟩ = some (.string s)) (hl : ∀ x ∈ l, ∃ a n c, x.2 = .slice a n c) :
    TestVar w 180 #[.pointer (some ⟨q, 0, none⟩)] (fun x => decide (x.1 = s)) l := by
  intro W x hx hb
  have hc := (hb.cell (p := ⟨q, 0, none⟩) hq).trans hs
  obtain ⟨a, n, c, hxu⟩ := hl x hx
  obtain ⟨xn, xu⟩ := x
  simp only at hxu
  subst hxu
  have he := str_eqB xn s
  have hal : Below W.heap.size W (W.alloc (.cells #[.string xn, .slice a n c] 100)) := (Below.refl _ _).alloc (Nat.le_refl _) _
  have hlt := Nat.lt_of_lt_of_le hq hb.size
  show Calls Tryz.prog _ #[.agg #[.string xn, .slice a n c], .pointer (some ⟨q, 0, none⟩)] W _
  clear hs hq hb hx hl
  simp only
  generalize decide (xn = s) = r at *
  go_enter Tryz.func180, Tryz.ntmps180
  go_wp2_with fail
  go_ret
  exact ⟨ret_bool rfl, hal⟩
theorem val_cases (s : ByteArray) (vars : List SVar) (us : List (ByteArray × Value)) (w : World) (hlen : us.length = vars.length) (h : ∀ (i : Nat) (v : SVar), vars[i]? = some v → ∃ u, us[i]? = some (v.1, u) ∧ StrsV w u v.2) :
    (findG (fun x => decide (x.1 = s)) us = -1 ∧ findV vars s = none) ∨ ∃ i u n l, findG (fun x => decide (x.1 = s)) us = ((i : Nat) : Int) ∧ i < vars.length ∧ us[i]? = some (n, u) ∧ findV vars s = some l ∧ StrsV w u l := by
  unfold findV findG
  cases hf : us.findIdx? (fun x => decide (x.1 = s)) with
  | none =>
    refine .inl ⟨rfl, ?_⟩
    rw [List.findIdx?_eq_none_iff] at hf
    rw [List.find?_eq_none.2 ?_]
    · rfl
    · intro v hv
      obtain ⟨i, hi⟩ := List.getElem?_of_mem hv
      obtain ⟨u, hu, _⟩ := h i v hi
      simpa using hf _ (List.mem_of_getElem? hu)
  | some i =>
    obtain ⟨hi, h1, h2⟩ := List.findIdx?_eq_some_iff_getElem.1 hf
    have hiv : i < vars.length := by omega
    have hx : vars[i]? = some vars[i] := List.getElem?_eq_getElem hiv
    obtain ⟨u, hu, hs⟩ := h i _ hx
    have hui : us[i] = (vars[i].1, u) := by
      have := List.getElem?_eq_getElem hi
      rw [hu] at this
      injection this with this
      exact this.symm
    refine .inr ⟨i, u, vars[i].1, vars[i].2, rfl, hiv, hu, ?_, hs⟩
    have : vars.find? (fun v => decide (v.1 = s)) = some vars[i] := by
      rw [List.find?_eq_some_iff_getElem]
      refine ⟨by rw [hui] at h1; exact h1, i, hiv, rfl, fun j hj => ?_⟩
      obtain ⟨uj, huj, _⟩ := h j _ (List.getElem?_eq_getElem (show j < vars.length by omega))
      have huj' : us[j] = (vars[j].1, uj) := by
        have := List.getElem?_eq_getElem (show j < us.length by omega)
        rw [huj] at this
        injection this with this
        exact this.symm
      have := h2 j hj
      rw [huj'] at this
      simpa using this
    rw [this]; rfl
def ValPost (vars : List SVar) (s : ByteArray) (w : World) (e : Ending) : Prop := (findV vars s = none ∧ e = .returned (.tuple #[.slice none 0 0, .bool false])) ∨ ∃ u l, findV vars s = some l ∧ StrsV w u l ∧ e = .returned (.tuple #[u, .bool true])
theorem us_slices {w : World} {vars : List SVar} {us : List (ByteArray × Value)} (hlen : us.length = vars.length) (h : ∀ (i : Nat) (v : SVar), vars[i]? = some v → ∃ u, us[i]? = some (v.1, u) ∧ StrsV w u v.2) : ∀ x ∈ us, ∃ a n c, x.2 = .slice a n c := by
  intro x hx
  obtain ⟨i, hi⟩ := List.getElem?_of_mem hx
  have hl := (List.getElem?_eq_some_iff.1 hi).1
  obtain ⟨u, hu, a, cap, e, _⟩ := h i _ (List.getElem?_eq_getElem (show i < vars.length by omega))
  rw [hi] at hu
  injection hu with hu
  rw [hu]
  exact ⟨_, _, _, e⟩
set_option maxHeartbeats 1600000 in
set_option maxRecDepth 100000 in
theorem sub_values (a : Option Addr) (cap : Nat) (vars : List SVar) (s : ByteArray) (w : World) (hv : VarsSl w a vars) (hl : vars.length ≤ 16777216) :
    Calls Tryz.prog 152 #[.slice a vars.length cap, .string s] w fun e w' => ValPost vars s w e ∧ Below w.heap.size w w' := by
  obtain ⟨us, h1, h2, h3⟩ := hv
  have hst1 : Below w.heap.size w (w.alloc (.cells #[.string s] 9)) := (Below.refl _ _).alloc (Nat.le_refl _) _
  have hq : (w.alloc (.cells #[.string s] 9)).cell? ⟨w.heap.size, 0, none⟩ = some (.string s) := by simp
  have cI := var_IndexFunc a cap us 180 #[.pointer (some ⟨w.heap.size, 0, none⟩)] (fun x => decide (x.1 = s)) _ (h1.below hst1) (by omega) (enters_of Tryz.func180 (by kernel_rfl) rfl) (val_fn w.heap.size s us _ (by simp) hq (us_slices h2 h3))
  rw [h2] at cI
  have CI := Lib.hid cI
  have hoc := val_cases s vars us w h2 h3
  clear cI hq h3
  go_enter Tryz.func152, Tryz.ntmps152
  go_wp2_with fail
  refine CI.out.mono ?_
  rintro e w2 ⟨rfl, hb2⟩
  have hb02 := Bt hst1 hb2
  have h12 := h1.below hb02
  clear hst1 hb2 CI h1
  rcases hoc with ⟨h1, h2⟩ | ⟨i, u, n, l, h1, hi, h3, h4, h5⟩
  · rw [h1]
    have H2 := Lib.hid h2
    clear h1 h2 h12
    go_wp2_with fail
    go_ret2
    exact ⟨.inl ⟨H2.out, rfl⟩, hb02⟩
  · rw [h1]
    obtain ⟨b, off, rfl, hbw, d0, d1⟩ := h12 i _ h3
    have hiI : (i : Int) < (vars.length : Int) := by omega
    have H4 := Lib.hid h4
    have H5 := Lib.hid h5
    simp only at d0 d1
    clear h1 h3 h4 h5 h12
    go_wp2_with fail
    go_ret2
    exact ⟨.inr ⟨_, _, H4.out, H5.out, rfl⟩, hb02⟩
set_option maxHeartbeats 1600000 in
theorem sub_values' (a : Option Addr) (cap : Nat) (vars : List SVar) (s : ByteArray) (w : World) (hv : VarsSl w a vars) (hl : vars.length ≤ 16777216) :
    Calls Tryz.prog 152 #[.slice a vars.length cap, .string s] w fun e w' => ∃ u, e = .returned (.tuple #[u, .bool (findV vars s).isSome]) ∧ StrsV w' u ((findV vars s).getD []) ∧ Below w.heap.size w w' :=
  (sub_values a cap vars s w hv hl).mono fun e w' ⟨h, hb⟩ => by
    rcases h with ⟨h1, rfl⟩ | ⟨u, l, h1, h2, rfl⟩
    · rw [h1]
      exact ⟨_, rfl, ⟨none, 0, rfl, Nat.le_refl _, fun i s h => by simp at h⟩, hb⟩
    · rw [h1]
      exact ⟨u, rfl, h2.below hb, hb⟩
end Go.Proofs.YtibhohpamnpkcaaGreatDoor

/- glob.Check, glob.small; the reference's Check, same. -/
namespace Go.Proofs.YtibhohpamnpkcaaGreatDoor
open Go.RowKit

/-- What is wrong with a pattern: the error's number, its place. -/
def chkP (p : ByteArray) : Nat × Nat := if 1024 < p.size then (14, 1024) else match (chrs p).2 with
  | none => (0, 0)
  | some i => (12, i)
theorem chkP_ok (p : ByteArray) : (chkP p).1 = 0 ↔ okP p = true := by
  unfold chkP okP
  by_cases h : 1024 < p.size
  · rw [if_pos h]; simp; omega
  · rw [if_neg h]
    cases hx : (chrs p).2 with
    | none => simp; omega
    | some i => simp

theorem IsFault.isErr {w : World} {v : Value} {k i : Nat} (h : IsFault w v (k : Int) (i : Int)) (hk : k ≠ 0) : IsErr w v k i := .inr ⟨hk, _, h⟩

def CheckPost (p : ByteArray) (w : World) (e : Ending) (w' : World) : Prop := Below w.heap.size w w' ∧ ((okP p = true ∧ chkP p = (0, 0) ∧ e = .returned .nilIface) ∨ (okP p = false ∧ (chkP p).1 ≠ 0 ∧ ∃ v, e = .returned v ∧ IsFault w' v (chkP p).1 (chkP p).2))

set_option maxHeartbeats 800000 in
theorem glob_Check (p : ByteArray) (w : World) (hU : Utf8Laid w) (hp : p.size ≤ 16777216) : Calls Tryz.prog 150 #[.string p] w (CheckPost p w) := by
  by_cases hlong : 1024 < p.size
  · have h1 : chkP p = (14, 1024) := by unfold chkP; rw [if_pos hlong]
    have h2 : okP p = false := by unfold okP; rw [decide_eq_false (by omega), Bool.false_and]
    have H1 := Lib.hid h1
    have H2 := Lib.hid h2
    clear h1 h2
    go_enter Tryz.func150, Tryz.ntmps150
    go_wp2_with fail
    refine (api_Fail' 14 1024 _).mono ?_
    rintro e w1 ⟨v, rfl, hv, hb⟩
    go_wp2_with fail
    go_ret
    exact ⟨hb, .inr ⟨H2.out, by rw [H1.out]; simp, v, rfl, by rw [H1.out]; exact hv⟩⟩
  · have h1 : ∀ r, (chrs p).2 = r → chkP p = match r with | none => (0, 0) | some i => (12, i) := by rintro r rfl; unfold chkP; rw [if_neg hlong]
    have h2 : ∀ r, (chrs p).2 = r → okP p = r.isNone := by rintro r rfl; unfold okP; rw [decide_eq_true (by omega), Bool.true_and]
    have H1 := Lib.hid h1
    have H2 := Lib.hid h2
    clear h1 h2
    go_enter Tryz.func150, Tryz.ntmps150
    go_wp2_with ((with_reducible refine wpList_bytes_sl rfl 9 74 5 _ rfl p rfl Tryz.underlying9 Tryz.underlying74 Tryz.underlying5 (by omega) ?_); intro v1 w1 hv1 hb1)
    have hU1 := hU.below hb1
    refine (utf_Valid v1 p _ hU1 hp hv1).mono ?_
    rintro e w2 ⟨hb2, h⟩
    have hb := Bt hb1 hb2
    rcases h with ⟨hn, rfl⟩ | ⟨i, hi, v2, rfl, hv2⟩
    · have HN := Lib.hid hn
      clear hn
      go_wp2_with fail
      go_ret
      exact ⟨hb, .inl ⟨H2.out _ HN.out, H1.out _ HN.out, rfl⟩⟩
    · have HN := Lib.hid hi
      clear hi
      go_wp2_with fail
      go_ret
      exact ⟨hb, .inr ⟨H2.out _ HN.out, by rw [H1.out _ HN.out]; simp, v2, rfl, by rw [H1.out _ HN.out]; exact hv2⟩⟩

theorem or_small (n : Nat) (h1 : 65 ≤ n) (h2 : n ≤ 90) : bits .or .i64 (n : Int) 32 = ((n + 32 : Nat) : Int) := by
  have : ∀ n : Fin 91, 65 ≤ n.1 → bits .or .i64 (n.1 : Int) 32 = ((n.1 + 32 : Nat) : Int) := by decide +kernel
  exact this ⟨n, by omega⟩ h1
theorem glob_small (c : Nat) (hc : c ≤ 1114111) (w : World) : Calls Tryz.prog 206 #[.int .i64 (c : Int)] w fun e w' => e = .returned (.int .i64 (smallC c : Nat)) ∧ w = w' := by
  by_cases h1 : 65 ≤ c
  · by_cases h2 : c ≤ 90
    · have hv := Lib.hid (show smallC c = c + 32 by unfold smallC; rw [if_pos ⟨h1, h2⟩])
      have ho := or_small c h1 h2
      go_enter Tryz.func206, Tryz.ntmps206
      go_wp2
      go_ret
      exact ⟨ret_i64 (by rw [hv.out]; first | rfl | omega), rfl⟩
    · have hv := Lib.hid (show smallC c = c by unfold smallC; rw [if_neg (by omega)])
      go_enter Tryz.func206, Tryz.ntmps206
      go_wp2
      go_ret
      exact ⟨ret_i64 (by rw [hv.out]), rfl⟩
  · have hv := Lib.hid (show smallC c = c by unfold smallC; rw [if_neg (by omega)])
    go_enter Tryz.func206, Tryz.ntmps206
    go_wp2
    go_ret
    exact ⟨ret_i64 (by rw [hv.out]), rfl⟩
end Go.Proofs.YtibhohpamnpkcaaGreatDoor

/- subst.Check. -/
namespace Go.Proofs.YtibhohpamnpkcaaGreatDoor
open Go.RowKit

/-- What is wrong with a pattern with variables: the error's number, its place. -/
def chkV (p : ByteArray) (vars : List SVar) : Nat × Nat := if okP p = false then chkP p else match missV vars (pcs p).1 with
  | some k => (30, k)
  | none => if (pcs p).2 < 0 then (0, 0) else (10, (pcs p).2.toNat)
def CheckVPost (p : ByteArray) (vars : List SVar) (w : World) (e : Ending) (w' : World) : Prop := Below w.heap.size w w' ∧ ((okV p vars = true ∧ chkV p vars = (0, 0) ∧ e = .returned .nilIface) ∨ (okV p vars = false ∧ (chkV p vars).1 ≠ 0 ∧ ∃ v, e = .returned v ∧ IsFault w' v (chkV p vars).1 (chkV p vars).2))
theorem pcs_len (p : ByteArray) : ∀ f k, k ≤ p.size → (pcF p f k).1.length + 2 * k ≤ 2 * p.size := by
  intro f
  induction f with
  | zero => intro k hk; simp [pcF]; omega
  | succ f ih =>
    intro k hk
    rw [pcF]
    by_cases hlt : k < p.size
    · rw [if_pos hlt]
      have hes := extract_tail_size p k hk
      rcases idx_pair (p.extract k p.size).data.toList with hi | ⟨n, hi, hn⟩
      · rw [hi, if_pos (by decide)]
        show 1 + _ ≤ _
        omega
      · rw [show (p.extract k p.size).data.toList.length = (p.extract k p.size).size from rfl, hes] at hn
        rw [hi, if_neg (by omega), Int.toNat_natCast, pre_int]
        have hpre : (preP p k n).length ≤ 1 := by unfold preP; split <;> simp
        by_cases hc : cutH 41 (p.extract (k + n + 2) p.size) = true
        · rw [if_pos hc]
          have hr := cut_room hc
          rw [extract_tail_size p (k + n + 2) (by omega)] at hr
          have := ih (k + n + 2 + (cutN 41 (p.extract (k + n + 2) p.size)).size + 1) (by omega)
          simp only [List.length_append, List.length_cons]
          omega
        · rw [if_neg hc]
          show (preP p k n).length + _ ≤ _
          omega
    · rw [if_neg hlt]; simp; omega
set_option maxHeartbeats 6400000 in
set_option maxRecDepth 100000 in
theorem sub_Check (p : ByteArray) (av : Option Addr) (vcap : Nat) (vars : List SVar) (w : World) (hU : Utf8Laid w) (hL : ClassLaid w) (hM : MaxAt w) (hv : VarsSl w av vars) (hp : p.size ≤ 16777216) (hvl : vars.length ≤ 16777216) :
    Calls Tryz.prog 120 #[.string p, .slice av vars.length vcap] w (CheckVPost p vars w) := by
  go_enter Tryz.func120, Tryz.ntmps120
  go_wp2_with fail
  refine (glob_Check p _ hU hp).mono ?_
  rintro e w1 ⟨hb1, h⟩
  rcases h with ⟨hok, _, rfl⟩ | ⟨hok, hk0, v, rfl, hfv⟩
  · have hM1 := hM.below hb1
    have hL1 := hL.below hb1
    have hv1 := hv.below hb1
    go_wp2_with fail
    refine (sub_pieces p _ hM1 hp).mono ?_
    rintro e w2 ⟨v2, rfl, hown, hb2⟩
    have hlen := pcs_len p (p.size + 1) 0 (Nat.zero_le _)
    obtain ⟨a3, n3, c3, rfl⟩ := hown.shape3
    obtain ⟨hn3, hc3, hcm, hsl⟩ := hown.sl
    subst hn3
    have hb12 := Bt hb1 hb2
    have hL2 := hL1.below hb2
    have hv2 := hv1.below hb2
    have hokv : okV p vars = ((missV vars (pcs p).1).isNone && decide ((pcs p).2 < 0)) := by unfold okV; rw [hok]; rfl
    have hckv : chkV p vars = match missV vars (pcs p).1 with | some k => (30, k) | none => if (pcs p).2 < 0 then (0, 0) else (10, (pcs p).2.toNat) := by unfold chkV; rw [if_neg (by rw [hok]; decide)]
    rw [show (pcF p (p.size + 1) 0).1 = (pcs p).1 from rfl] at hlen
    have HO := Lib.hid hokv
    have HK := Lib.hid hckv
    unfold maxLen at hcm
    clear hokv hckv hok hown hb1 hb2 hU hL hM hv hM1 hL1 hv1
    generalize (pcs p).1 = qs at *
    generalize (pcs p).2 = bd at *
    go_wp2_with fail
    go_loopw [24] (fun x wr => ∃ i : Nat, i ≤ qs.length ∧ x = .int .i64 i ∧ missV vars (qs.drop i) = missV vars qs ∧ Below w2.heap.size w2 wr) (fun x _ => qs.length - (intOf x).toNat)
    case atStart => exact ⟨0, Nat.zero_le _, rfl, by rw [List.drop_zero], Below.refl _ _⟩
    case round =>
      obtain ⟨i, hil, rfl, hmi, hbr⟩ := hrel
      have hb02 := Bt hb12 hbr
      by_cases hlt : i < qs.length
      · have hiI : (i : Int) < (qs.length : Int) := by omega
        obtain ⟨q, hq⟩ : ∃ q, qs[i]? = some q := ⟨_, List.getElem?_eq_getElem hlt⟩
        obtain ⟨b, ha, hbw, d0, d1, d2⟩ := (hsl.below hbr) i q hq
        have hdr : qs.drop i = q :: qs.drop (i + 1) := by
          obtain ⟨hi, rfl⟩ := List.getElem?_eq_some_iff.1 hq
          exact List.drop_eq_getElem_cons hi
        rw [hdr, missV] at hmi
        obtain ⟨tx, iv, pl⟩ := q
        simp only at d0 d1 d2 hmi
        have hal : Below wr.heap.size wr (wr.alloc (.cells #[.string tx, .bool iv, .int .i64 (pl : Int)] 221)) := (Below.refl _ _).alloc (Nat.le_refl _) _
        have hal2 := Bt hbr hal
        have hal0 := Bt hb12 hal2
        subst ha
        clear hq hdr hsl
        cases iv with
        | false =>
          have HR := Lib.hid (show missV vars (qs.drop (i + 1)) = missV vars qs by rw [← hmi, if_neg (by simp)])
          clear hmi
          go_wp2_with fail
          go_roundw
          case rel => exact ⟨i + 1, by omega, by go_num, HR.out, hal2⟩
          case measure => simp [intOf]; omega
        | true =>
          have hLa := hL2.below hal2
          have hva := hv2.below hal2
          have hq0 := heap_alloc_new wr (.cells #[.string tx, .bool true, .int .i64 (pl : Int)] 221)
          have hMI := Lib.hid hmi
          clear hmi
          go_wp2_with fail
          refine (sub_Own tx _ hLa).mono ?_
          rintro e w4 ⟨rfl, hb4⟩
          have hb24 := Bt hal2 hb4
          cases how : (ownC tx).isSome with
          | true =>
            have HR := Lib.hid (show missV vars (qs.drop (i + 1)) = missV vars qs by
              have := hMI.out
              rw [if_neg (by rintro ⟨_, h, _⟩; cases ho : ownC tx <;> rw [ho] at h how <;> simp at h how)] at this
              exact this)
            clear how hMI hLa hva hq0 hal hal2 hb4
            go_wp2_with fail
            go_roundw
            case rel => exact ⟨i + 1, by omega, by go_num, HR.out, hb24⟩
            case measure => simp [intOf]; omega
          | false =>
            have hq4 := (hb4.block wr.heap.size (by simp)).trans hq0
            have t0 := cell_of_row _ _ 0 _ _ _ hq4
            have t2 := cell_of_row _ _ 2 _ _ _ hq4
            rw [show (#[Value.string tx, .bool true, .int .i64 (pl : Int)] : Array Value)[0]? = some (.string tx) from rfl] at t0
            rw [show (#[Value.string tx, .bool true, .int .i64 (pl : Int)] : Array Value)[2]? = some (.int .i64 (pl : Int)) from rfl] at t2
            have hl4 := lt_of_block hq4
            have hv4 := hva.below hb4
            have HOW := Lib.hid how
            clear how hLa hva hq0 hal hal2 hb4 hq4
            go_wp2_with fail
            refine (sub_values' av vcap vars tx _ hv4 hvl).mono ?_
            rintro e w5 ⟨u, rfl, _, hb5⟩
            have hb25 := Bt hb24 hb5
            have t25 := (hb5.cell (p := ⟨wr.heap.size, 2, none⟩) hl4).trans t2
            cases hfv : (findV vars tx).isSome with
            | true =>
              have HR := Lib.hid (show missV vars (qs.drop (i + 1)) = missV vars qs by
                have := hMI.out
                rw [if_neg (by rintro ⟨_, _, h⟩; cases ho : findV vars tx <;> rw [ho] at h hfv <;> simp at h hfv)] at this
                exact this)
              clear hfv hMI hv4 t0 t2 t25 hb5 HOW
              go_wp2_with fail
              go_roundw
              case rel => exact ⟨i + 1, by omega, by go_num, HR.out, hb25⟩
              case measure => simp [intOf]; omega
            | false =>
              have HR := Lib.hid (show missV vars qs = some pl by
                have := hMI.out
                rw [if_pos ⟨by first | rfl | trivial, by have := HOW.out; cases ho : ownC tx <;> rw [ho] at this <;> simp at this ⊢, by cases ho : findV vars tx <;> rw [ho] at hfv <;> simp at hfv ⊢⟩] at this
                exact this.symm)
              have hb05 := Bt hb12 hb25
              clear hfv hMI hv4 t0 t2 hb5 HOW hb25
              go_wp2_with fail
              refine (api_Fail' 30 (pl : Int) _).mono ?_
              rintro e w6 ⟨v6, rfl, hf6, hb6⟩
              have hb06 := Bt hb05 hb6
              have HF := Lib.hid hf6
              obtain ⟨z, rfl⟩ := hf6.ne_nil
              clear hf6 t25 hb05 hb6
              go_wp2_with fail
              go_ret
              have hK := HK.out
              rw [HR.out] at hK
              exact ⟨hb06, .inr ⟨by rw [HO.out, HR.out]; rfl, by rw [hK]; simp, _, rfl, by rw [hK]; exact HF.out⟩⟩
      · obtain rfl : i = qs.length := by omega
        rw [List.drop_length, missV] at hmi
        have HR := Lib.hid hmi.symm
        clear hmi
        by_cases hbd : 0 ≤ bd
        · go_wp2_with fail
          refine (api_Fail' 10 bd _).mono ?_
          rintro e w6 ⟨v6, rfl, hf6, hb6⟩
          have hb06 := Bt hb02 hb6
          have HF := Lib.hid hf6
          obtain ⟨z, rfl⟩ := hf6.ne_nil
          clear hf6 hb6
          go_wp2_with fail
          go_ret
          have hK := HK.out
          rw [HR.out] at hK
          simp only [if_neg (show ¬ bd < 0 by omega)] at hK
          have hbn : ((bd.toNat : Nat) : Int) = bd := by omega
          exact ⟨hb06, .inr ⟨by rw [HO.out, HR.out, decide_eq_false (by omega)]; rfl, by rw [hK]; simp, _, rfl, by rw [hK]; simp only [hbn]; exact HF.out⟩⟩
        · go_wp2_with fail
          go_ret
          have hK := HK.out
          rw [HR.out] at hK
          simp only [if_pos (show bd < 0 by omega)] at hK
          exact ⟨hb02, .inl ⟨by rw [HO.out, HR.out, decide_eq_true (by omega)]; rfl, hK, rfl⟩⟩
  · have H1 := Lib.hid (show okV p vars = false by unfold okV; rw [hok]; rfl)
    have H2 := Lib.hid (show chkV p vars = chkP p by unfold chkV; rw [if_pos hok])
    have HF := Lib.hid hfv
    obtain ⟨q, rfl⟩ := hfv.ne_nil
    clear hok hfv
    have HK0 := Lib.hid hk0
    clear hk0
    go_wp2_with fail
    go_ret
    exact ⟨hb1, .inr ⟨H1.out, by rw [H2.out]; exact HK0.out, _, rfl, by rw [H2.out]; exact HF.out⟩⟩
end Go.Proofs.YtibhohpamnpkcaaGreatDoor

/- Parts of patterns, characters, in memory. -/
namespace Go.Proofs.YtibhohpamnpkcaaGreatDoor
open Go.RowKit

theorem info_part : (Tryz.prog.info? 291).map (fun i => (i.zero, i.size, i.bytes)) = some (some (.agg #[.int .i64 0, .bool false, .bool false]), 3, 16) := by kernel_rfl

def partCells (p : GPart) : List Value := [.int .i64 (p.char : Int), .bool p.wild, .bool p.many]
def partsV (l : List GPart) : List Value := l.flatMap partCells
theorem partsV_len (l : List GPart) : (partsV l).length = l.length * 3 := by
  induction l with
  | nil => rfl
  | cons p l ih =>
    unfold partsV at ih ⊢
    rw [List.flatMap_cons, List.length_append, ih, List.length_cons]
    show 3 + _ = _
    omega
theorem partsV_app (a b : List GPart) : partsV (a ++ b) = partsV a ++ partsV b := by unfold partsV; exact List.flatMap_append
theorem partsV_at {l : List GPart} {i : Nat} {p : GPart} (h : l[i]? = some p) (j : Nat) (hj : j < 3) : (partsV l)[i * 3 + j]? = (partCells p)[j]? := by
  induction l generalizing i with
  | nil => simp at h
  | cons q l ih =>
    cases i with
    | zero =>
      simp at h; subst h
      show (partCells q ++ partsV l)[0 * 3 + j]? = _
      rw [List.getElem?_append_left (by show _ < 3; omega)]
      congr 1; omega
    | succ i =>
      simp at h
      show (partCells q ++ partsV l)[(i + 1) * 3 + j]? = _
      rw [List.getElem?_append_right (by show 3 ≤ _; omega), ← ih h]
      congr 1
      show (i + 1) * 3 + j - 3 = _
      omega
theorem partsV_one (p : GPart) : ∀ u ∈ partCells p, u.oneCell' = true := by
  intro u hu
  unfold partCells at hu
  simp at hu
  rcases hu with rfl | rfl | rfl <;> rfl

def OwnP (w : World) (base : Nat) (v : Value) (l : List GPart) : Prop := w.ownsRow base 291 3 v l.length (partsV l)

theorem OwnP.below {w w' : World} {base : Nat} {v : Value} {l : List GPart} (h : OwnP w base v l) (hb : Below w.heap.size w w') : OwnP w' base v l := ownsRow_below h hb
theorem OwnP.nil (w : World) (base : Nat) : OwnP w base (.slice none 0 0) [] := World.ownsRow_nil _ _ _ _
theorem OwnP.under {w0 w w' : World} {base : Nat} {v : Value} {l : List GPart} (h : OwnP w base v l) (hb : Below w0.heap.size w0 w) (hB : w0.heap.size ≤ base) (hg : w.grownBy w' v.ownBlock) : Below w0.heap.size w0 w' :=
  hb.grown hg hb.size (fun j hj => Nat.le_trans hB (World.ownsRow.lt h j hj).1)
theorem wpList_app_part {w : World} {ops : Array Oper} {rest : List Oper} {o : Oper} {a : Act} {Q : Exit → Act → World → Prop} (hgd : o.guard = none) (s x : Operand) (ho : o.op = .call { callee := .builtin .append, args := #[s, x], argTypes := #[255, 255] })
    (base : Nat) (v : Value) (l : List GPart) (hs : a.eval s = v) (hown : OwnP w base v l) (g c : Nat) (p : GPart) (hx : a.eval x = .slice (some ⟨g, 0, none⟩) 1 c) (hb : w.heap[g]? = some (.cells (partCells p).toArray 291 (0, 0)))
    (hl : l.length ≤ 1073741824) (hbase : base ≤ w.heap.size)
    (h : ∀ v' w', OwnP w' base v' (l ++ [p]) → w.grownBy w' v.ownBlock → wpList Tryz.prog ops Q rest (a.put o.dst v') w') : wpList Tryz.prog ops Q (o :: rest) a w := by
  obtain ⟨i, hi, hz, hsize, hby⟩ := info_parts info_part
  refine wpList_append_own _ hgd s x 255 ho base 291 i _ 3 16 Tryz.underlying255 hi hz hsize hby rfl (by decide) v _ _ hs hown _ 1 c (partCells p) hx rfl ?_ (partsV_one p) (by unfold maxLen; omega) (by omega) hbase ?_
  · intro j u hj
    rw [Addr.add_lit, Nat.zero_add, cell_of_row w g j _ _ _ hb, ← hj]
    simp
  · intro v' w' h1 h2 _
    refine h v' w' ?_ h2
    unfold OwnP
    rw [List.length_append, partsV_app]
    have : partsV [p] = partCells p := by unfold partsV; simp
    rw [this]
    exact h1

/-- A slice of parts. -/
def PartsSl (w : World) (a : Option Addr) (l : List GPart) : Prop := ∀ (i : Nat) (p : GPart), l[i]? = some p → ∃ b, a = some ⟨b, 0, none⟩ ∧ b < w.heap.size ∧
  w.cell? ⟨b, i * 3, none⟩ = some (.int .i64 (p.char : Int)) ∧ w.cell? ⟨b, i * 3 + 1, none⟩ = some (.bool p.wild) ∧ w.cell? ⟨b, i * 3 + 2, none⟩ = some (.bool p.many)
theorem PartsSl.below {w w' : World} {a : Option Addr} {l : List GPart} (h : PartsSl w a l) (hb : Below w.heap.size w w') : PartsSl w' a l := by
  intro i p hp
  obtain ⟨b, e, hlt, h1, h2, h3⟩ := h i p hp
  exact ⟨b, e, Nat.lt_of_lt_of_le hlt hb.size, (hb.cell (p := ⟨b, i * 3, none⟩) hlt).trans h1, (hb.cell (p := ⟨b, i * 3 + 1, none⟩) hlt).trans h2, (hb.cell (p := ⟨b, i * 3 + 2, none⟩) hlt).trans h3⟩
theorem PartsSl.ne {w : World} {a : Option Addr} {l : List GPart} {g n : Nat} {f : Nat → Bool} (h : PartsSl w a l) (hr : w.rowIs g 4 (n + 1) (fun i => .bool (f i))) : ∀ b, a = some ⟨b, 0, none⟩ → l ≠ [] → b ≠ g := by
  rintro b e hne rfl
  cases l with
  | nil => exact hne rfl
  | cons p l =>
    obtain ⟨b', e', _, h1, _, _⟩ := h 0 p rfl
    rw [e] at e'
    cases e'
    have := hr.cell (i := 0) (by omega)
    rw [show (0 : Nat) * 3 = 0 from rfl, this] at h1
    cases h1
theorem PartsSl.grown {w w' : World} {a : Option Addr} {l : List GPart} {g : Nat} (h : PartsSl w a l) (hg : w.grownBy w' (some g)) (hne : ∀ b, a = some ⟨b, 0, none⟩ → l ≠ [] → b ≠ g) : PartsSl w' a l := by
  intro i p hp
  obtain ⟨b, e, hlt, h1, h2, h3⟩ := h i p hp
  have hb : b ≠ g := hne b e (fun e => by rw [e] at hp; simp at hp)
  have hk := hg.block b hlt (fun e => hb (by injection e))
  exact ⟨b, e, Nat.lt_of_lt_of_le hlt hg.size, (World.cell?_of_block hk).trans h1, (World.cell?_of_block hk).trans h2, (World.cell?_of_block hk).trans h3⟩
/-- A slice of characters. -/
def CharsSl (w : World) (a : Option Addr) (l : List Nat) : Prop := ∀ (i c : Nat), l[i]? = some c → ∃ b, a = some ⟨b, 0, none⟩ ∧ b < w.heap.size ∧ w.cell? ⟨b, i, none⟩ = some (.int .i64 (c : Int))
theorem CharsSl.ne {w : World} {a : Option Addr} {l : List Nat} {g n : Nat} {f : Nat → Bool} (h : CharsSl w a l) (hr : w.rowIs g 4 (n + 1) (fun i => .bool (f i))) : ∀ b, a = some ⟨b, 0, none⟩ → l ≠ [] → b ≠ g := by
  rintro b e hne rfl
  cases l with
  | nil => exact hne rfl
  | cons p l =>
    obtain ⟨b', e', _, h1⟩ := h 0 p rfl
    rw [e] at e'
    cases e'
    have := hr.cell (i := 0) (by omega)
    rw [this] at h1
    cases h1
theorem CharsSl.grown {w w' : World} {a : Option Addr} {l : List Nat} {g : Nat} (h : CharsSl w a l) (hg : w.grownBy w' (some g)) (hne : ∀ b, a = some ⟨b, 0, none⟩ → l ≠ [] → b ≠ g) : CharsSl w' a l := by
  intro i p hp
  obtain ⟨b, e, hlt, h1⟩ := h i p hp
  have hb : b ≠ g := hne b e (fun e => by rw [e] at hp; simp at hp)
  have hk := hg.block b hlt (fun e => hb (by injection e))
  exact ⟨b, e, Nat.lt_of_lt_of_le hlt hg.size, (World.cell?_of_block hk).trans h1⟩
theorem OwnP.sl {w : World} {base n c : Nat} {a : Option Addr} {l : List GPart} (h : OwnP w base (.slice a n c) l) : n = l.length ∧ n ≤ c ∧ c ≤ maxLen ∧ PartsSl w a l := by
  unfold OwnP at h
  rcases h.2 with ⟨e0, e1⟩ | ⟨g, cap, cur, e0, hg, hh, h1, h2, _⟩
  · cases e0
    refine ⟨e1.symm, Nat.le_refl _, by unfold maxLen; omega, fun i p hp => ?_⟩
    have := (List.getElem?_eq_some_iff.1 hp).1
    omega
  · cases e0
    refine ⟨rfl, h1, h2, fun i p hp => ?_⟩
    have hc := h.cells (g := g) rfl
    have c0 := hc (i * 3 + 0) _ ((partsV_at hp 0 (by omega)).trans rfl)
    have c1 := hc (i * 3 + 1) _ ((partsV_at hp 1 (by omega)).trans rfl)
    have c2 := hc (i * 3 + 2) _ ((partsV_at hp 2 (by omega)).trans rfl)
    simp only [Addr.add_lit, Nat.zero_add, Nat.add_zero] at c0 c1 c2
    exact ⟨g, rfl, lt_of_block hh, c0, c1, c2⟩

theorem CharsSl.below {w w' : World} {a : Option Addr} {l : List Nat} (h : CharsSl w a l) (hb : Below w.heap.size w w') : CharsSl w' a l := by
  intro i p hp
  obtain ⟨b, e, hlt, h1⟩ := h i p hp
  exact ⟨b, e, Nat.lt_of_lt_of_le hlt hb.size, (hb.cell (p := ⟨b, i, none⟩) hlt).trans h1⟩
theorem chars_sl {w : World} {base n : Nat} {v : Value} {l : List Nat} (h : w.ownsRow base 3 1 v n (l.map intV)) (hn : n = l.length) : ∃ a c, v = .slice a l.length c ∧ l.length ≤ c ∧ c ≤ maxLen ∧ CharsSl w a l := by
  subst hn
  have h' := h
  rcases h.2 with ⟨e0, e1⟩ | ⟨g, cap, cur, e0, hg, hh, h1, h2, _⟩
  · refine ⟨none, 0, by rw [e0, e1], by omega, by unfold maxLen; omega, fun i c hc => ?_⟩
    have := (List.getElem?_eq_some_iff.1 hc).1
    omega
  · refine ⟨_, cap, e0, h1, h2, fun i c hc => ?_⟩
    have hlt := (List.getElem?_eq_some_iff.1 hc).1
    subst e0
    refine ⟨g, rfl, lt_of_block hh, ?_⟩
    rw [h'.cellAt i (by omega), List.getElem?_map, hc]; rfl
end Go.Proofs.YtibhohpamnpkcaaGreatDoor

/- subst.turned, within, alike. -/
namespace Go.Proofs.YtibhohpamnpkcaaGreatDoor
open Go.RowKit

def letB : ByteArray := ⟨#[97, 98, 99, 100, 101, 102, 103, 104, 105, 106, 107, 108, 109, 110, 111, 112, 113, 114, 115, 116, 117, 118, 119, 120, 121, 122, 65, 66, 67, 68, 69, 70, 71, 72, 73, 74, 75, 76, 77, 78, 79, 80, 81, 82, 83, 84, 85, 86, 87, 88, 89, 90]⟩
theorem let_byte : ∀ c : Fin 128, hasB letB (UInt8.ofNat c.1) = isLet c.1 := by decide +kernel
theorem turn_xor : ∀ c : Fin 128, isLet c.1 = true → bits .xor .i64 (c.1 : Int) 32 = ((turnC c.1 : Nat) : Int) := by decide +kernel
theorem and_low (c : Nat) (h : c < 9223372036854775808) : bits .and .i64 (c : Int) 127 = ((c % 128 : Nat) : Int) := by
  show IntKind.i64.wrap ((BitVec.ofInt 64 (c : Int) &&& BitVec.ofInt 64 127).toNat : Int) = _
  rw [BitVec.ofInt_natCast, show (127 : Int) = ((127 : Nat) : Int) from rfl, BitVec.ofInt_natCast, BitVec.toNat_and, BitVec.toNat_ofNat, BitVec.toNat_ofNat, Nat.mod_eq_of_lt (a := c) (by omega), Nat.mod_eq_of_lt (a := 127) (by omega), show (127 : Nat) = 2 ^ 7 - 1 by rfl, Nat.and_two_pow_sub_one_eq_mod]
  simp only [IntKind.wrap, IntKind.signed, IntKind.bits]
  simp
  omega
theorem turn_other {c : Nat} (h : isLet c = false) : turnC c = c := by
  unfold isLet at h
  simp at h
  unfold turnC
  rw [if_neg (by omega), if_neg (by omega)]
theorem let_small {c : Nat} (h : 128 ≤ c) : isLet c = false := by
  unfold isLet; simp; omega
theorem turn_lt {c : Nat} (h : c < 128) : turnC c < 128 := by unfold turnC; split <;> (try split) <;> omega
theorem let_nat {d : Nat} (h : d < 128) : hasB letB (UInt8.ofNat d) = isLet d := let_byte ⟨d, h⟩
theorem xor_nat {d : Nat} (h : d < 128) (h2 : isLet d = true) : bits .xor .i64 (d : Int) 32 = ((turnC d : Nat) : Int) := turn_xor ⟨d, h⟩ h2
theorem nat_u8 (d : Nat) : ((d : Int).toNat.toUInt8) = UInt8.ofNat d := by simp
set_option maxHeartbeats 1600000 in
set_option maxRecDepth 100000 in
theorem sub_turned (c : Nat) (hc : c ≤ 1114111) (w : World) : Calls Tryz.prog 209 #[.int .i64 (c : Int)] w fun e w' => e = .returned (.int .i64 (turnC c : Nat)) ∧ w = w' := by
  have hand := and_low c (by omega)
  have hyes : c < 128 → isLet c = true → bits .xor .i64 (c : Int) 32 = ((turnC c : Nat) : Int) := fun h h2 => xor_nat h h2
  have hno : isLet c = false → turnC c = c := turn_other
  have hlow : c < 128 → isLet (c % 128) = isLet c := fun h => by rw [Nat.mod_eq_of_lt h]
  have hbig : ¬ c < 128 → isLet c = false := fun h => let_small (by omega)
  obtain ⟨d, hd, hd2⟩ : ∃ d, c % 128 = d ∧ d < 128 := ⟨_, rfl, Nat.mod_lt _ (by omega)⟩
  rw [hd] at hand hlow
  have hw : IntKind.u8.wrap (d : Int) = (d : Int) := IntWalk.u8_in _ (by omega)
  have hcall := fun W => Tryz.strings_IndexByte letB (d : Int) W
  rw [nat_u8] at hcall
  have hix := index_has letB (UInt8.ofNat d)
  rw [let_nat hd2] at hix
  have HC := Lib.hid hcall
  have HL := Lib.hid hlow
  have HB := Lib.hid hbig
  have HN := Lib.hid hno
  have HY := Lib.hid hyes
  clear hcall hlow hbig hno hyes hd hd2
  generalize Lib.indexByte letB.data.toList (UInt8.ofNat d) = ix at *
  by_cases h : c < 128
  · have hI : (c : Int) < 128 := by omega
    rcases hix with ⟨h1, h2⟩ | ⟨h1, h2⟩
    · have hx := HY.out h ((HL.out h).symm.trans h1)
      clear h1 h
      go_enter Tryz.func209, Tryz.ntmps209
      go_wp2_with fail
      refine (HC.out _).mono ?_
      rintro e w2 ⟨rfl, rfl⟩
      go_wp2_with fail
      go_ret
      exact ⟨rfl, rfl⟩
    · have hx := Lib.hid (HN.out ((HL.out h).symm.trans h1))
      clear h1 h
      go_enter Tryz.func209, Tryz.ntmps209
      go_wp2_with fail
      refine (HC.out _).mono ?_
      rintro e w2 ⟨rfl, rfl⟩
      go_wp2_with fail
      go_ret
      exact ⟨ret_i64 (by rw [hx.out]), rfl⟩
  · have hI : ¬ (c : Int) < 128 := by omega
    have hx := Lib.hid (HN.out (HB.out h))
    clear h
    rcases hix with ⟨h1, h2⟩ | ⟨h1, h2⟩
    · clear h1
      go_enter Tryz.func209, Tryz.ntmps209
      go_wp2_with fail
      refine (HC.out _).mono ?_
      rintro e w2 ⟨rfl, rfl⟩
      go_wp2_with fail
      go_ret
      exact ⟨ret_i64 (by rw [hx.out]), rfl⟩
    · clear h1
      go_enter Tryz.func209, Tryz.ntmps209
      go_wp2_with fail
      refine (HC.out _).mono ?_
      rintro e w2 ⟨rfl, rfl⟩
      go_wp2_with fail
      go_ret
      exact ⟨ret_i64 (by rw [hx.out]), rfl⟩
end Go.Proofs.YtibhohpamnpkcaaGreatDoor
