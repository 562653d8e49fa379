/- subst.own, Own: the variables that there are always. -/
import Derived.Test.YtipenfeplampeaaDoorSubstPlainM7
import Derived.Test.YtipenfeplampeaaDoorSubstPlainM5
import Derived.Laws.ResultCell
import Derived.Laws.Tables
import Derived.Test.YtipenfeplampeaaDoorSubstPlainM3
import Derived.Test.YtipenfeplampeaaDoorSubstPlainM6
import Derived.Test.YtipenfeplampeaaDoorSubstPlainM4

namespace Go.Proofs.YtipenfeplampeaaDoor
open Go.RowKit

/-- The classes of package subst, as its text lays them. -/
def ClassLaid (w : World) : Prop := ClsAt w 1 0 clsT
theorem ClassLaid.below {w w' : World} (h : ClassLaid w) (hb : Below w.heap.size w w') : ClassLaid w' := ClsAt.below h hb
def clsV (x : ByteArray × ByteArray × Nat) : Value := .agg #[.string x.1, .string x.2.1, .int .i64 (x.2.2 : Nat)]
set_option maxHeartbeats 800000 in
theorem own_fn (q : Nat) (s : ByteArray) (l : List (ByteArray × ByteArray × Nat)) (w : World) (hq : q < w.heap.size) (hs : w.cell? ⟨q, 0, none⟩ = some (.string s)) :
    TestCls w 41 #[.pointer (some ⟨q, 0, none⟩)] (fun x => decide (x.1 = s)) l := by
  intro W x _ hb
  have hc := (hb.cell (p := ⟨q, 0, none⟩) hq).trans hs
  obtain ⟨xn, xa, xz⟩ := x
  have he := str_eqB xn s
  have hal : Below W.heap.size W (W.alloc (.cells #[.string xn, .string xa, .int .i64 (xz : Nat)] 61)) := (Below.refl _ _).alloc (Nat.le_refl _) _
  have hlt := Nat.lt_of_lt_of_le hq hb.size
  show Calls Tryd.prog _ #[.agg #[.string xn, .string xa, .int .i64 (xz : Nat)], .pointer (some ⟨q, 0, none⟩)] W _
  clear hs hq hb
  simp only
  generalize decide (xn = s) = r at *
  go_enter Tryd.func41, Tryd.ntmps41
  go_wp2_with fail
  go_ret
  exact ⟨ret_bool rfl, hal⟩
theorem own_cases (s : ByteArray) : (findG (fun x => decide (x.1 = s)) clsT = -1 ∧ ownC s = none) ∨ ∃ i x, findG (fun x => decide (x.1 = s)) clsT = ((i : Nat) : Int) ∧ i < 8 ∧ clsT[i]? = some x ∧ ownC s = some x.2 := by
  unfold ownC findG
  cases h : clsT.findIdx? (fun x => decide (x.1 = s)) with
  | none =>
    refine .inl ⟨rfl, ?_⟩
    rw [List.findIdx?_eq_none_iff] at h
    rw [List.find?_eq_none.2 (fun x hx => by simpa using h x hx)]
    rfl
  | some i =>
    obtain ⟨hi, h1, h2⟩ := List.findIdx?_eq_some_iff_getElem.1 h
    have hx : clsT[i]? = some clsT[i] := List.getElem?_eq_getElem hi
    refine .inr ⟨i, clsT[i], rfl, hi, hx, ?_⟩
    have : clsT.find? (fun x => decide (x.1 = s)) = some clsT[i] := by
      rw [List.find?_eq_some_iff_getElem]
      exact ⟨h1, i, hi, rfl, fun j hj => by simpa using h2 j hj⟩
    rw [this]; rfl
theorem info_cls : (Tryd.prog.info? 61).map (·.size) = some 3 := by kernel_rfl
theorem load_cls {w : World} {g : Nat} {x y z : Value} (h : w.heap[g]? = some (.cells #[x, y, z] 61 (0, 0))) : (loadVar 61 ⟨g, 0, none⟩).run Tryd.prog w = .ok (.agg #[x, y, z]) w :=
  run_loadVar_row w g _ _ _ _ _ h Tryd.underlying61 rfl (by rw [info_cls]; rfl)
theorem results_cls {fn : Func} {p u : Tmp} {tmps : Array Value} {w : World} {g : Nat} {x y z : Value} (h : fn.results = #[.cell p 61, .tmp u]) (hp : tmps.getD p undef = .pointer (some ⟨g, 0, none⟩)) (hg : w.heap[g]? = some (.cells #[x, y, z] 61 (0, 0))) :
    (results fn tmps).run Tryd.prog w = .ok (.tuple #[.agg #[x, y, z], tmps.getD u undef]) w := by
  rw [results_cell_tmp h, hp]
  simp [asAddr, Result.andThen, load_cls hg]
theorem below_setRow8 {B : Nat} {a w : World} (h : Below B a w) {g : Nat} (hg : B ≤ g) (cs : Array Value) : Below B a (w.setRow g cs) :=
  ⟨h.os, h.tape, h.output, by simpa using h.size, fun k hk => (setRow_other w g k cs (by omega)).trans (h.block k hk)⟩
theorem all_cls (n a : ByteArray) (z : Int) : (#[Value.string n, .string a, .int .i64 z] : Array Value).all (·.oneCell') = true := by simp [Value.oneCell']
theorem wpList_store_cls {w : World} {ops : Array Oper} {rest : List Oper} {o : Oper} {a : Act} {Q : Exit → Act → World → Prop} (hgd : o.guard = none) (x y : Operand) (ho : o.op = .store 61 x y) (g : Nat) (n am : ByteArray) (z : Int) (hx : a.eval x = .pointer (some ⟨g, 0, none⟩)) (hy : a.eval y = .agg #[.string n, .string am, .int .i64 z])
    (u v q : Value) (hg : w.heap[g]? = some (.cells #[u, v, q] 61 (0, 0))) (h : wpList Tryd.prog ops Q rest (a.put o.dst undef) (w.setRow g #[.string n, .string am, .int .i64 z])) : wpList Tryd.prog ops Q (o :: rest) a w :=
  wpList_store_row hgd _ x y ho g _ hx hy _ _ hg (by rw [info_cls]; rfl) rfl (all_cls n am z) h
def OwnPost (s : ByteArray) (e : Ending) : Prop := (ownC s = none ∧ e = .returned (.tuple #[.agg #[.string ⟨#[]⟩, .string ⟨#[]⟩, .int .i64 0], .bool false])) ∨ ∃ n am sz, ownC s = some (am, sz) ∧ 1 ≤ sz ∧ sz ≤ 2 ∧ e = .returned (.tuple #[.agg #[.string n, .string am, .int .i64 ((sz : Nat) : Int)], .bool true])
theorem cls_size : ∀ x ∈ clsT, 1 ≤ x.2.2 ∧ x.2.2 ≤ 2 := by decide
set_option maxHeartbeats 1600000 in
set_option maxRecDepth 100000 in
theorem sub_own (s : ByteArray) (w : World) (hL : ClassLaid w) : Calls Tryd.prog 25 #[.string s] w fun e w' => OwnPost s e ∧ Below w.heap.size w w' := by
  have hst1 : Below w.heap.size w (w.alloc (.cells #[.string s] 9)) := (Below.refl _ _).alloc (Nat.le_refl _) _
  have hst2 : Below w.heap.size w ((w.alloc (.cells #[.string s] 9)).alloc (.cells #[.string ⟨#[]⟩, .string ⟨#[]⟩, .int .i64 0] 61)) := hst1.alloc (by simp) _
  have hq : ((w.alloc (.cells #[.string s] 9)).alloc (.cells #[.string ⟨#[]⟩, .string ⟨#[]⟩, .int .i64 0] 61)).cell? ⟨w.heap.size, 0, none⟩ = some (.string s) := by simp
  have cI' := cls_IndexFunc 1 0 8 clsT 41 #[.pointer (some ⟨w.heap.size, 0, none⟩)] (fun x => decide (x.1 = s)) _ (hL.below hst2) (by decide) (enters_of Tryd.func41 (by kernel_rfl) rfl) (own_fn w.heap.size s clsT _ (by simp; omega) hq)
  have cI : Calls Tryd.prog 40 #[.slice (some ⟨1, 0, none⟩) 8 8, .func (.func 41) #[] #[.pointer (some ⟨w.heap.size, 0, none⟩)]] _ _ := cI'
  have CI := Lib.hid cI
  have hoc := own_cases s
  clear cI cI' hst1 hq
  go_enter Tryd.func25, Tryd.ntmps25
  go_wp2_with fail
  refine CI.out.mono ?_
  rintro e w2 ⟨rfl, hb2⟩
  have hz0 := heap_alloc_new (w.alloc (.cells #[.string s] 9)) (.cells #[.string ⟨#[]⟩, .string ⟨#[]⟩, .int .i64 0] 61)
  rw [World.size_alloc] at hz0
  have hz := (hb2.block (w.heap.size + 1) (by simp)).trans hz0
  have hb02 := Bt hst2 hb2
  have hL2 := hL.below hb02
  clear hz0 hb2 hst2 CI hL
  rcases hoc with ⟨h1, h2⟩ | ⟨i, x, h1, h2, h3, h4⟩
  · rw [h1]
    have H2 := Lib.hid h2
    clear h1 h2
    go_wp2_with (refine wpList_store_cls (o := ⟨none, _, _, _, _, _⟩) rfl _ _ rfl (w.heap.size + 1) ⟨#[]⟩ ⟨#[]⟩ 0 rfl rfl _ _ _ hz ?_)
    (try simp only [Exit.inBlock, Exit.then])
    refine bodyPost_ret (results_cls rfl rfl (setRow_heap w2 (w.heap.size + 1) _ _ _ _ hz)) rfl ?_
    exact ⟨.inl ⟨H2.out, rfl⟩, below_setRow8 hb02 (by omega) _⟩
  · rw [h1]
    obtain ⟨d0, d1, d2⟩ := hL2.2 i x h3
    have hzz := cls_size x (List.mem_of_getElem? h3)
    have hgl := hL2.1
    obtain ⟨xn, xa, xz⟩ := x
    simp only [Nat.zero_add] at d0 d1 d2
    have hi : (i : Int) < 8 := by omega
    have H4 := Lib.hid h4
    have HZ := Lib.hid hzz
    clear h1 h3 h4 hL2 hzz
    have hz' : (w2.setRow (w.heap.size + 1) #[.string xn, .string xa, .int .i64 (xz : Nat)]).heap[w.heap.size + 1]? = _ := setRow_heap w2 (w.heap.size + 1) _ #[.string xn, .string xa, .int .i64 (xz : Nat)] _ _ hz
    have HZ' := Lib.hid hz'
    clear hz'
    go_wp2_with (refine wpList_store_cls (o := ⟨none, _, _, _, _, _⟩) rfl _ _ rfl (w.heap.size + 1) xn xa (xz : Nat) rfl rfl _ _ _ hz ?_)
    (try simp only [Exit.inBlock, Exit.then])
    refine bodyPost_ret (results_cls rfl rfl HZ'.out) rfl ?_
    exact ⟨.inr ⟨_, _, _, H4.out, HZ.out.1, HZ.out.2, rfl⟩, below_setRow8 hb02 (by omega) _⟩
end Go.Proofs.YtipenfeplampeaaDoor

/- subst.Own, values. -/
namespace Go.Proofs.YtipenfeplampeaaDoor
open Go.RowKit

set_option maxHeartbeats 800000 in
theorem sub_Own (s : ByteArray) (w : World) (hL : ClassLaid w) : Calls Tryd.prog 12 #[.string s] w fun e w' => e = .returned (.bool (ownC s).isSome) ∧ Below w.heap.size w w' := by
  go_enter Tryd.func12, Tryd.ntmps12
  go_wp2_with fail
  refine (sub_own s _ hL).mono ?_
  rintro e w2 ⟨h, hb2⟩
  rcases h with ⟨h1, rfl⟩ | ⟨n, am, sz, h1, _, _, rfl⟩
  · have hal : Below w2.heap.size w2 (w2.alloc (.cells #[.string ⟨#[]⟩, .string ⟨#[]⟩, .int .i64 0] 61)) := (Below.refl _ _).alloc (Nat.le_refl _) _
    have hb3 := Bt hb2 hal
    have H := Lib.hid (show (ownC s).isSome = false by rw [h1]; rfl)
    clear h1 hb2 hal
    go_wp2_with fail
    go_ret
    exact ⟨ret_bool H.out.symm, hb3⟩
  · have hal : Below w2.heap.size w2 (w2.alloc (.cells #[.string n, .string am, .int .i64 (sz : Int)] 61)) := (Below.refl _ _).alloc (Nat.le_refl _) _
    have hb3 := Bt hb2 hal
    have H := Lib.hid (show (ownC s).isSome = true by rw [h1]; rfl)
    clear h1 hb2 hal
    go_wp2_with fail
    go_ret
    exact ⟨ret_bool H.out.symm, hb3⟩
set_option maxHeartbeats 800000 in
theorem val_fn (q : Nat) (s : ByteArray) (l : List (ByteArray × Value)) (w : World) (hq : q < w.heap.size) (hs : w.cell? ⟨q, 0, none⟩ = some (.string s)) (hl : ∀ x ∈ l, ∃ a n c, x.2 = .slice a n c) :
    TestVar w 59 #[.pointer (some ⟨q, 0, none⟩)] (fun x => decide (x.1 = s)) l := by
  intro W x hx hb
  have hc := (hb.cell (p := ⟨q, 0, none⟩) hq).trans hs
  obtain ⟨a, n, c, hxu⟩ := hl x hx
  obtain ⟨xn, xu⟩ := x
  simp only at hxu
  subst hxu
  have he := str_eqB xn s
  have hal : Below W.heap.size W (W.alloc (.cells #[.string xn, .slice a n c] 24)) := (Below.refl _ _).alloc (Nat.le_refl _) _
  have hlt := Nat.lt_of_lt_of_le hq hb.size
  show Calls Tryd.prog _ #[.agg #[.string xn, .slice a n c], .pointer (some ⟨q, 0, none⟩)] W _
  clear hs hq hb hx hl
  simp only
  generalize decide (xn = s) = r at *
  go_enter Tryd.func59, Tryd.ntmps59
  go_wp2_with fail
  go_ret
  exact ⟨ret_bool rfl, hal⟩
theorem val_cases (s : ByteArray) (vars : List SVar) (us : List (ByteArray × Value)) (w : World) (hlen : us.length = vars.length) (h : ∀ (i : Nat) (v : SVar), vars[i]? = some v → ∃ u, us[i]? = some (v.1, u) ∧ StrsV w u v.2) :
    (findG (fun x => decide (x.1 = s)) us = -1 ∧ findV vars s = none) ∨ ∃ i u n l, findG (fun x => decide (x.1 = s)) us = ((i : Nat) : Int) ∧ i < vars.length ∧ us[i]? = some (n, u) ∧ findV vars s = some l ∧ StrsV w u l := by
  unfold findV findG
  cases hf : us.findIdx? (fun x => decide (x.1 = s)) with
  | none =>
    refine .inl ⟨rfl, ?_⟩
    rw [List.findIdx?_eq_none_iff] at hf
    rw [List.find?_eq_none.2 ?_]
    · rfl
    · intro v hv
      obtain ⟨i, hi⟩ := List.getElem?_of_mem hv
      obtain ⟨u, hu, _⟩ := h i v hi
      simpa using hf _ (List.mem_of_getElem? hu)
  | some i =>
    obtain ⟨hi, h1, h2⟩ := List.findIdx?_eq_some_iff_getElem.1 hf
    have hiv : i < vars.length := by omega
    have hx : vars[i]? = some vars[i] := List.getElem?_eq_getElem hiv
    obtain ⟨u, hu, hs⟩ := h i _ hx
    have hui : us[i] = (vars[i].1, u) := by
      have := List.getElem?_eq_getElem hi
      rw [hu] at this
      injection this with this
      exact this.symm
    refine .inr ⟨i, u, vars[i].1, vars[i].2, rfl, hiv, hu, ?_, hs⟩
    have : vars.find? (fun v => decide (v.1 = s)) = some vars[i] := by
      rw [List.find?_eq_some_iff_getElem]
      refine ⟨by rw [hui] at h1; exact h1, i, hiv, rfl, fun j hj => ?_⟩
      obtain ⟨uj, huj, _⟩ := h j _ (List.getElem?_eq_getElem (show j < vars.length by omega))
      have huj' : us[j] = (vars[j].1, uj) := by
        have := List.getElem?_eq_getElem (show j < us.length by omega)
        rw [huj] at this
        injection this with this
        exact this.symm
      have := h2 j hj
      rw [huj'] at this
      simpa using this
    rw [this]; rfl
def ValPost (vars : List SVar) (s : ByteArray) (w : World) (e : Ending) : Prop := (findV vars s = none ∧ e = .returned (.tuple #[.slice none 0 0, .bool false])) ∨ ∃ u l, findV vars s = some l ∧ StrsV w u l ∧ e = .returned (.tuple #[u, .bool true])
theorem us_slices {w : World} {vars : List SVar} {us : List (ByteArray × Value)} (hlen : us.length = vars.length) (h : ∀ (i : Nat) (v : SVar), vars[i]? = some v → ∃ u, us[i]? = some (v.1, u) ∧ StrsV w u v.2) : ∀ x ∈ us, ∃ a n c, x.2 = .slice a n c := by
  intro x hx
  obtain ⟨i, hi⟩ := List.getElem?_of_mem hx
  have hl := (List.getElem?_eq_some_iff.1 hi).1
  obtain ⟨u, hu, a, cap, e, _⟩ := h i _ (List.getElem?_eq_getElem (show i < vars.length by omega))
  rw [hi] at hu
  injection hu with hu
  rw [hu]
  exact ⟨_, _, _, e⟩
set_option maxHeartbeats 1600000 in
set_option maxRecDepth 100000 in
theorem sub_values (a : Option Addr) (cap : Nat) (vars : List SVar) (s : ByteArray) (w : World) (hv : VarsSl w a vars) (hl : vars.length ≤ 16777216) :
    Calls Tryd.prog 44 #[.slice a vars.length cap, .string s] w fun e w' => ValPost vars s w e ∧ Below w.heap.size w w' := by
  obtain ⟨us, h1, h2, h3⟩ := hv
  have hst1 : Below w.heap.size w (w.alloc (.cells #[.string s] 9)) := (Below.refl _ _).alloc (Nat.le_refl _) _
  have hq : (w.alloc (.cells #[.string s] 9)).cell? ⟨w.heap.size, 0, none⟩ = some (.string s) := by simp
  have cI := var_IndexFunc a cap us 59 #[.pointer (some ⟨w.heap.size, 0, none⟩)] (fun x => decide (x.1 = s)) _ (h1.below hst1) (by omega) (enters_of Tryd.func59 (by kernel_rfl) rfl) (val_fn w.heap.size s us _ (by simp) hq (us_slices h2 h3))
  rw [h2] at cI
  have CI := Lib.hid cI
  have hoc := val_cases s vars us w h2 h3
  clear cI hq h3
  go_enter Tryd.func44, Tryd.ntmps44
  go_wp2_with fail
  refine CI.out.mono ?_
  rintro e w2 ⟨rfl, hb2⟩
  have hb02 := Bt hst1 hb2
  have h12 := h1.below hb02
  clear hst1 hb2 CI h1
  rcases hoc with ⟨h1, h2⟩ | ⟨i, u, n, l, h1, hi, h3, h4, h5⟩
  · rw [h1]
    have H2 := Lib.hid h2
    clear h1 h2 h12
    go_wp2_with fail
    go_ret2
    exact ⟨.inl ⟨H2.out, rfl⟩, hb02⟩
  · rw [h1]
    obtain ⟨b, off, rfl, hbw, d0, d1⟩ := h12 i _ h3
    have hiI : (i : Int) < (vars.length : Int) := by omega
    have H4 := Lib.hid h4
    have H5 := Lib.hid h5
    simp only at d0 d1
    clear h1 h3 h4 h5 h12
    go_wp2_with fail
    go_ret2
    exact ⟨.inr ⟨_, _, H4.out, H5.out, rfl⟩, hb02⟩
set_option maxHeartbeats 1600000 in
theorem sub_values' (a : Option Addr) (cap : Nat) (vars : List SVar) (s : ByteArray) (w : World) (hv : VarsSl w a vars) (hl : vars.length ≤ 16777216) :
    Calls Tryd.prog 44 #[.slice a vars.length cap, .string s] w fun e w' => ∃ u, e = .returned (.tuple #[u, .bool (findV vars s).isSome]) ∧ StrsV w' u ((findV vars s).getD []) ∧ Below w.heap.size w w' :=
  (sub_values a cap vars s w hv hl).mono fun e w' ⟨h, hb⟩ => by
    rcases h with ⟨h1, rfl⟩ | ⟨u, l, h1, h2, rfl⟩
    · rw [h1]
      exact ⟨_, rfl, ⟨none, 0, rfl, Nat.le_refl _, fun i s h => by simp at h⟩, hb⟩
    · rw [h1]
      exact ⟨u, rfl, h2.below hb, hb⟩
end Go.Proofs.YtipenfeplampeaaDoor

/- utf.Chars: all characters of bytes. -/
namespace Go.Proofs.YtipenfeplampeaaDoor
open Go.RowKit

def CharsPost (s : ByteArray) (w : World) (e : Ending) (w' : World) : Prop :=
  Below w.heap.size w w' ∧ (((chrs s).2 = none ∧ ∃ v, e = .returned (.tuple #[v, .nilIface]) ∧ w'.ownsRow w.heap.size 3 1 v (chrs s).1.length ((chrs s).1.map intV)) ∨
    (∃ i, (chrs s).2 = some i ∧ ∃ v, e = .returned (.tuple #[.slice none 0 0, v]) ∧ IsFault w' v 12 i))

set_option maxHeartbeats 1600000 in
set_option maxRecDepth 100000 in
theorem utf_Chars (v : Value) (s : ByteArray) (w : World) (hU : Utf8Laid w) (hs : s.size ≤ 16777216) (hv : BytesSl w v s) :
    Calls Tryd.prog 27 #[v] w (CharsPost s w) := by
  rcases hv with ⟨h0, a, cap, rfl⟩ | ⟨b, off, cap, rfl, hc, hcm, hbs, hp⟩
  · have hz := Lib.hid ((Reach.zero s).done (by omega))
    clear h0
    go_enter Tryd.func27, Tryd.ntmps27
    go_wp2_with fail
    refine wp_loop_rounds 1 ?_
    rw [rounds_succ]
    go_wp2_with fail
    go_ret2
    exact ⟨Below.refl _ _, .inl ⟨by rw [hz.out], _, rfl, by rw [hz.out]; exact World.ownsRow_nil _ _ _ _⟩⟩
  · obtain ⟨i0, hi, hz0, hz1, hz2⟩ := info_parts info_int
    unfold maxLen at hcm
    go_enter Tryd.func27, Tryd.ntmps27
    go_wp2_with fail
    go_loopw [4, 5] (fun v a wr => ∃ (i : Nat) (l : List Nat), i ≤ s.size ∧ a = .int .i64 i ∧ Reach s l i ∧ wr.ownsRow w.heap.size 3 1 v l.length (l.map intV) ∧ Below w.heap.size w wr)
      (fun _ a _ => s.size - (intOf a).toNat)
    case atStart => exact ⟨0, [], Nat.zero_le _, rfl, Reach.zero s, World.ownsRow_nil _ _ _ _, Below.refl _ _⟩
    case round =>
      obtain ⟨i, l, hil, rfl, hr, hown, hbr⟩ := hrel
      have hll : l.length ≤ i := by obtain ⟨_, _, h, _⟩ := hr; exact h
      have HR := Lib.hid hr
      clear hr
      by_cases hlt : i < s.size
      · obtain ⟨hd1, hd2, hd3, hd4⟩ := decB_bounds s i hlt
        clear hd4
        go_wp2_with fail
        refine (utf_Next s i b off cap _ (hU.below hbr) hlt hc hcm (hp.below hbr hbs)).mono ?_
        rintro e w2 ⟨hb2, h⟩
        have hown2 := ownsRow_below hown hb2
        have hbr2 := Bt hbr hb2
        clear hown hbr hb2
        rcases h with ⟨hok, rfl⟩ | ⟨hok, v, rfl, hv⟩
        · have hst := HR.out.step hlt hok
          generalize (decB s i).1 = c at *
          generalize (decB s i).2 = n at *
          have HST := Lib.hid hst
          clear hst hok
          go_wp2_with (at_builtin; refine wpList_append_own _ rfl _ _ 42 rfl w.heap.size 3 i0 (.int .i64 0) 1 8 Tryd.underlying42 hi hz0 hz1 hz2 rfl (by decide) _ _ _ rfl (hown2.alloc _) ⟨w2.heap.size, 0, none⟩ 1 1 [intV c] rfl rfl ?c1 ?c2 ?c3 ?c4 ?c5 ?_)
          case c1 =>
            intro j u hj
            match j, hj with
            | 0, hj => simp at hj; subst hj; simp [Addr.add, intV]
          case c2 => intro u hu; simp at hu; subst hu; rfl
          case c3 => unfold maxLen; omega
          case c4 => omega
          case c5 => have := hbr2.size; simp; omega
          intro v1 w3 hown3 hg3 _
          have hbr3 := below_app hbr2 hown2 (Nat.le_refl _) hg3
          clear hg3 hown2 hbr2
          go_wp2_with fail
          go_roundw
          case rel => exact ⟨i + n, l ++ [c], by omega, by go_num, HST.out, by simpa using hown3, hbr3⟩
          case measure => simp [intOf]; omega
        · obtain ⟨p, rfl⟩ := hv.ne_nil
          have hb := Lib.hid (HR.out.bad hlt hok)
          clear hok
          go_wp2_with fail
          go_ret2
          exact ⟨hbr2, .inr ⟨i, by rw [hb.out], _, rfl, hv⟩⟩
      · have hb := Lib.hid (HR.out.done hlt)
        obtain rfl : i = s.size := by omega
        go_wp2_with fail
        go_ret2
        exact ⟨hbr, .inl ⟨by rw [hb.out], _, rfl, by rw [hb.out]; exact hown⟩⟩

def ValidPost (s : ByteArray) (w : World) (e : Ending) (w' : World) : Prop :=
  Below w.heap.size w w' ∧ (((chrs s).2 = none ∧ e = .returned .nilIface) ∨ (∃ i, (chrs s).2 = some i ∧ ∃ v, e = .returned v ∧ IsFault w' v 12 i))
set_option maxHeartbeats 800000 in
theorem utf_Valid (v : Value) (s : ByteArray) (w : World) (hU : Utf8Laid w) (hs : s.size ≤ 16777216) (hv : BytesSl w v s) :
    Calls Tryd.prog 19 #[v] w (ValidPost s w) := by
  go_enter Tryd.func19, Tryd.ntmps19
  go_wp2_with fail
  refine (utf_Chars v s _ hU hs hv).mono ?_
  rintro e w2 ⟨hb2, h⟩
  rcases h with ⟨hn, v2, rfl, _⟩ | ⟨i, hi, v2, rfl, hv2⟩
  · have HN := Lib.hid hn
    clear hn
    go_wp2_with fail
    go_ret
    exact ⟨hb2, .inl ⟨HN.out, rfl⟩⟩
  · have HN := Lib.hid hi
    clear hi
    go_wp2_with fail
    go_ret
    exact ⟨hb2, .inr ⟨i, HN.out, _, rfl, hv2⟩⟩
end Go.Proofs.YtipenfeplampeaaDoor

/- Plain facts: a list of numbers' bytes, or the first one that is no character. -/
namespace Go.Proofs.YtipenfeplampeaaDoor

/-- How many of the list's numbers, from its head, are characters. -/
def rightLen : List Int → Nat
  | [] => 0
  | c :: l => if rightB c = true then rightLen l + 1 else 0
def nats (l : List Int) : List Nat := l.map Int.toNat
theorem rightLen_le (l : List Int) : rightLen l ≤ l.length := by
  induction l with
  | nil => exact Nat.le_refl _
  | cons c l ih => unfold rightLen; split <;> simp <;> omega
theorem rightLen_step : ∀ (l : List Int) (i : Nat), i ≤ rightLen l → i < l.length → (rightB (l.getD i 0) = true → i + 1 ≤ rightLen l) ∧ (rightB (l.getD i 0) = false → rightLen l = i) := by
  intro l
  induction l with
  | nil => intro i _ h; simp at h
  | cons c l ih =>
    intro i h1 h2
    unfold rightLen at h1 ⊢
    by_cases hc : rightB c = true
    · rw [if_pos hc] at h1 ⊢
      cases i with
      | zero => exact ⟨fun _ => by omega, fun h => by simp [hc] at h⟩
      | succ i =>
        have := ih i (by omega) (by simpa using h2)
        constructor
        · intro h; have := this.1 (by simpa using h); omega
        · intro h; have := this.2 (by simpa using h); omega
    · rw [if_neg hc] at h1 ⊢
      obtain rfl : i = 0 := by omega
      exact ⟨fun h => absurd (by simpa using h) hc, fun _ => rfl⟩
theorem right_all : ∀ (l : List Int), rightLen l = l.length → ∀ c ∈ nats l, rightC c := by
  intro l
  induction l with
  | nil => intro _ c hc; simp [nats] at hc
  | cons d l ih =>
    intro h c hc
    unfold rightLen at h
    split at h
    · rename_i hd
      simp only [nats, List.map_cons, List.mem_cons] at hc
      rcases hc with rfl | hc
      · have hz := (rightB_iff d).1 hd
        unfold rightZ at hz
        unfold rightC; omega
      · exact ih (by simpa using h) c hc
    · simp at h
theorem nats_take_succ (l : List Int) (i : Nat) (hi : i < l.length) : nats (l.take (i + 1)) = nats (l.take i) ++ [(l.getD i 0).toNat] := by
  unfold nats
  rw [List.take_succ_eq_append_getElem hi, List.map_append]
  simp [hi]
theorem nats_len (l : List Int) : (nats l).length = l.length := by simp [nats]
end Go.Proofs.YtipenfeplampeaaDoor
