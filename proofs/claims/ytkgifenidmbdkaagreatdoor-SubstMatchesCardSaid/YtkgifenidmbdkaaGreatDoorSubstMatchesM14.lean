/- subst's matcher: class. -/
import Derived.Test.YtkgifenidmbdkaaGreatDoorSubstMatchesM13
import Derived.Test.YtkgifenidmbdkaaGreatDoorSubstMatchesM9
import Derived.Test.YtkgifenidmbdkaaGreatDoorSubstMatchesM7
import Derived.Deep.DeepCutAuto
import Derived.Deep.RegionHeld

namespace Go.Proofs.YtkgifenidmbdkaaGreatDoor
open Go.RowKit

theorem seg_get {cs : List Nat} {i j k c : Nat} (h : (segL cs i j)[k]? = some c) : cs[i + k]? = some c ∧ i + k < j := by
  unfold segL at h
  rw [List.getElem?_drop, List.getElem?_take] at h
  split at h
  · exact ⟨h, by assumption⟩
  · cases h
theorem seg_len {cs : List Nat} {i j : Nat} (h : j ≤ cs.length) : (segL cs i j).length = j - i := by
  unfold segL
  rw [List.length_drop, List.length_take]
  omega
set_option maxHeartbeats 800000 in
theorem class_fn (g q1 q2 a1 n1 : Nat) (a : Option Addr) (cap m : Nat) (cs : List Nat) (vs : Value) (fold : Bool) (nm am : ByteArray) (sz : Int) (l : List Nat) (w : World) (hm : MatAt w g a m cap cs vs fold) (hq1 : q1 < w.heap.size) (h1 : w.cell? ⟨q1, 0, none⟩ = some (.pointer (some ⟨g, 0, none⟩))) (hq2 : q2 < w.heap.size) (h2 : w.cell? ⟨q2, 1, none⟩ = some (.string am)) (hle : ∀ c ∈ l, c ≤ 1114111) :
    TestNum w 120 #[.pointer (some ⟨q1, 0, none⟩), .pointer (some ⟨q2, 0, none⟩)] (fun c => !withinB fold am c) l := by
  intro W c hc hb
  have hc1 := (hb.cell (p := ⟨q1, 0, none⟩) hq1).trans h1
  have hc2 := (hb.cell (p := ⟨q2, 1, none⟩) hq2).trans h2
  have hf := (hm.below hb).2.2.2.1
  have hl1 := Nat.lt_of_lt_of_le hq1 hb.size
  have hl2 := Nat.lt_of_lt_of_le hq2 hb.size
  have hcle := hle c hc
  have CW := Lib.hid (fun W h => sub_within g c am fold W hcle h)
  show Calls Tryz.prog _ #[.int .i64 (c : Int), .pointer (some ⟨q1, 0, none⟩), .pointer (some ⟨q2, 0, none⟩)] W _
  clear h1 h2 hq1 hq2 hb hm hle hc
  simp only
  generalize withinB fold am c = r at *
  go_enter Tryz.func120, Tryz.ntmps120
  go_wp2_with fail
  refine (CW.out _ hf).mono ?_
  rintro e w2 ⟨rfl, rfl⟩
  go_wp2_with fail
  go_ret
  exact ⟨ret_bool rfl, Below.refl _ _⟩
/-- The places that are reached from the first i. -/
def clsD (fold : Bool) (cs : List Nat) (am : ByteArray) (sz : Nat) (fr : Nat → Bool) (i j : Nat) : Bool := decide (j < i + sz) && clsR fold cs am sz fr j
theorem clsD_skip {fold : Bool} {cs : List Nat} {am : ByteArray} {sz : Nat} {fr : Nat → Bool} {i : Nat} (h : fr i = false) (j : Nat) : clsD fold cs am sz fr i j = clsD fold cs am sz fr (i + 1) j := by
  unfold clsD
  by_cases hj : j = i + sz
  · subst hj
    have : clsR fold cs am sz fr (i + sz) = false := by unfold clsR; rw [show i + sz - sz = i by omega, h]; simp
    rw [this]; simp
  · congr 1
    rw [Bool.eq_iff_iff]; simp; omega
theorem clsD_far {fold : Bool} {cs : List Nat} {am : ByteArray} {sz : Nat} {fr : Nat → Bool} {i n : Nat} (h : n ≤ i + sz) (j : Nat) (hj : j < n) : clsD fold cs am sz fr i j = clsD fold cs am sz fr (i + 1) j := by
  unfold clsD
  congr 1
  rw [Bool.eq_iff_iff]; simp; omega
theorem clsD_set {fold : Bool} {cs : List Nat} {am : ByteArray} {sz : Nat} {fr : Nat → Bool} {i : Nat} (h : fr i = true) (j : Nat) : clsD fold cs am sz fr (i + 1) j = if j = i + sz then (segL cs i (i + sz)).all (withinB fold am) else clsD fold cs am sz fr i j := by
  unfold clsD
  by_cases hj : j = i + sz
  · subst hj
    rw [if_pos rfl, decide_eq_true (by omega)]
    unfold clsR
    rw [show i + sz - sz = i by omega, h]; simp
  · rw [if_neg hj]
    congr 1
    rw [Bool.eq_iff_iff]; simp; omega
set_option maxHeartbeats 6400000 in
set_option maxRecDepth 100000 in
theorem sub_class (g gf c1 m cap sz : Nat) (a : Option Addr) (cs : List Nat) (vs : Value) (fr : Nat → Bool) (fold : Bool) (nm am : ByteArray) (w : World) (hm : MatAt w g a m cap cs vs fold) (hm2 : m ≤ 16777216) (hs1 : 1 ≤ sz) (hs2 : sz ≤ 2)
    (hf : w.rowIs gf 4 (m + 1) (boolsF fr)) (hcs : ∀ c ∈ cs, c ≤ 1114111) (hcap : m ≤ cap) :
    Calls Tryz.prog 83 #[.pointer (some ⟨g, 0, none⟩), .agg #[.string nm, .string am, .int .i64 (sz : Int)], .slice (some ⟨gf, 0, none⟩) (m + 1) c1] w fun e w' => ∃ gn, e = .returned (.slice (some ⟨gn, 0, none⟩) (m + 1) (m + 1)) ∧ w'.rowIs gn 4 (m + 1) (boolsF (clsR fold cs am sz fr)) ∧ w.heap.size ≤ gn ∧ Below w.heap.size w w' := by
  have hst1 : Below w.heap.size w (w.alloc (.cells #[.pointer (some ⟨g, 0, none⟩)] 108)) := (Below.refl _ _).alloc (Nat.le_refl _) _
  have hst2 := hst1.alloc (by simp) (.cells #[.string nm, .string am, .int .i64 (sz : Int)] 148)
  have hrn := World.rowIs_made ((w.alloc (.cells #[.pointer (some ⟨g, 0, none⟩)] 108)).alloc (.cells #[.string nm, .string am, .int .i64 (sz : Int)] 148)) (.bool false) (m + 1) 4
  have hst3 := hst2.alloc (by simp; omega) (.cells (madeCells #[.bool false] (m + 1)) 4)
  have hmk := make_bools m hm2
  rw [World.size_alloc, World.size_alloc] at hrn
  have hB1 : Below (w.alloc (.cells #[.pointer (some ⟨g, 0, none⟩)] 108)).heap.size (w.alloc (.cells #[.pointer (some ⟨g, 0, none⟩)] 108)) ((w.alloc (.cells #[.pointer (some ⟨g, 0, none⟩)] 108)).alloc (.cells #[.string nm, .string am, .int .i64 (sz : Int)] 148)) := (Below.refl _ _).alloc (Nat.le_refl _) _
  have hB2 : Below ((w.alloc (.cells #[.pointer (some ⟨g, 0, none⟩)] 108)).alloc (.cells #[.string nm, .string am, .int .i64 (sz : Int)] 148)).heap.size ((w.alloc (.cells #[.pointer (some ⟨g, 0, none⟩)] 108)).alloc (.cells #[.string nm, .string am, .int .i64 (sz : Int)] 148)) (((w.alloc (.cells #[.pointer (some ⟨g, 0, none⟩)] 108)).alloc (.cells #[.string nm, .string am, .int .i64 (sz : Int)] 148)).alloc (.cells (madeCells #[.bool false] (m + 1)) 4)) := (Below.refl _ _).alloc (Nat.le_refl _) _
  have hq0 : (w.alloc (.cells #[.pointer (some ⟨g, 0, none⟩)] 108)).cell? ⟨w.heap.size, 0, none⟩ = some (.pointer (some ⟨g, 0, none⟩)) := by rw [cell_of_row _ _ _ _ _ _ (heap_alloc_new w (.cells #[.pointer (some ⟨g, 0, none⟩)] 108))]; rfl
  have hq1 := heap_alloc_new (w.alloc (.cells #[.pointer (some ⟨g, 0, none⟩)] 108)) (.cells #[.string nm, .string am, .int .i64 (sz : Int)] 148)
  rw [World.size_alloc] at hq1
  have hc3 := ((Bt hB1 hB2).cell (p := ⟨w.heap.size, 0, none⟩) (by simp)).trans hq0
  have hc4 := (hB2.cell (p := ⟨w.heap.size + 1, 1, none⟩) (by simp)).trans (cell_of_row _ _ 1 _ _ _ hq1)
  have hc5 := (hB2.cell (p := ⟨w.heap.size + 1, 2, none⟩) (by simp)).trans (cell_of_row _ _ 2 _ _ _ hq1)
  rw [show (#[Value.string nm, .string am, .int .i64 (sz : Int)] : Array Value)[1]? = some (.string am) from rfl] at hc4
  rw [show (#[Value.string nm, .string am, .int .i64 (sz : Int)] : Array Value)[2]? = some (.int .i64 (sz : Int)) from rfl] at hc5
  have hsz : (((w.alloc (.cells #[.pointer (some ⟨g, 0, none⟩)] 108)).alloc (.cells #[.string nm, .string am, .int .i64 (sz : Int)] 148)).alloc (.cells (madeCells #[.bool false] (m + 1)) 4)).heap.size = w.heap.size + 3 := by simp
  have hfw := hf.lt
  have hm3 := hm.below hst3
  have hf3 := row_below hf hst3
  have HCS := Lib.hid hcs
  clear hst1 hst2 hcs hB1 hB2 hq0 hq1
  go_enter Tryz.func83, Tryz.ntmps83
  go_wp2_with fail
  generalize ((w.alloc (.cells #[.pointer (some ⟨g, 0, none⟩)] 108)).alloc (.cells #[.string nm, .string am, .int .i64 (sz : Int)] 148)).alloc (.cells (madeCells #[.bool false] (m + 1)) 4) = w3 at *
  clear hmk
  go_loopw [16] (fun x wr => ∃ i : Nat, i ≤ m + 1 ∧ x = .int .i64 i ∧ wr.rowIs (w.heap.size + 2) 4 (m + 1) (boolsF (clsD fold cs am sz fr i)) ∧ w3.grownBy wr (some (w.heap.size + 2))) (fun x _ => m + 1 - (intOf x).toNat)
  case atStart => exact ⟨0, Nat.zero_le _, rfl, hrn.congr fun j _ => by
    show Value.bool false = Value.bool (clsD fold cs am sz fr 0 j)
    unfold clsD clsR
    by_cases h : j < sz
    · rw [decide_eq_false (show ¬ sz ≤ j by omega)]; simp
    · rw [decide_eq_false (show ¬ j < 0 + sz by omega)]; simp, grown_refl _ _⟩
  case round =>
    obtain ⟨i, him, rfl, hr, hgr⟩ := hrel
    by_cases hlt : i < m + 1
    · have hiI : (i : Int) < (m : Int) + 1 := by omega
      have hfi := rowIs_far hf3 hgr (by simp; omega)
      have cf := hfi.cell (i := i) hlt
      have hfl := hfi.lt
      have e1 : boolsF fr i = .bool (fr i) := rfl
      rw [e1] at cf
      have k3 := (cell_grown hgr (p := ⟨w.heap.size, 0, none⟩) (by show w.heap.size < _; omega) (by show w.heap.size ≠ _; omega)).trans hc3
      have k4 := (cell_grown hgr (p := ⟨w.heap.size + 1, 1, none⟩) (by show w.heap.size + 1 < _; omega) (by show w.heap.size + 1 ≠ _; omega)).trans hc4
      have k5 := (cell_grown hgr (p := ⟨w.heap.size + 1, 2, none⟩) (by show w.heap.size + 1 < _; omega) (by show w.heap.size + 1 ≠ _; omega)).trans hc5
      have hgs := hgr.size
      have z1 : IntKind.i64.wrap ((i : Int) + (sz : Int)) = (i : Int) + (sz : Int) := IntWalk.i64_in _ (by omega)
      cases hfr : fr i with
      | false =>
        rw [hfr] at cf
        have hr2 := Lib.hid (hr.congr (g := boolsF (clsD fold cs am sz fr (i + 1))) fun j _ => by show Value.bool _ = Value.bool _; rw [clsD_skip hfr j])
        clear hfr hr
        go_wp2_with fail
        go_roundw
        case rel => exact ⟨i + 1, by omega, by go_num, hr2.out, hgr⟩
        case measure => simp [intOf]; omega
      | true =>
        rw [hfr] at cf
        by_cases hto : i + sz < m + 1
        · have htI : ¬ (m : Int) + 1 ≤ (i : Int) + (sz : Int) := by omega
          obtain ⟨hgl, q0, _, _, hmn, hcl⟩ := hm3.grown (f := fun _ => false) hgr hrn
          have hm4 := hm3.grown (f := fun _ => false) hgr hrn
          obtain ⟨c0, hc0⟩ : ∃ c, cs[i]? = some c := ⟨_, List.getElem?_eq_getElem (by omega)⟩
          obtain ⟨bb, ha, hbb, _⟩ := hcl i c0 hc0
          have hll : (segL cs i (i + sz)).length = sz := by rw [seg_len (by omega)]; omega
          have hna : NumAt wr bb i (segL cs i (i + sz)) := ⟨hbb, fun k c hk => by
            obtain ⟨b', e', _, h'⟩ := hcl (i + k) c (seg_get hk).1
            rw [ha] at e'
            injection e' with e'
            injection e' with e'
            rw [e']
            exact h'⟩
          have hle : ∀ c ∈ segL cs i (i + sz), c ≤ 1114111 := fun c hc => by
            obtain ⟨k, hk⟩ := List.getElem?_of_mem hc
            exact HCS.out c (List.mem_of_getElem? (seg_get hk).1)
          have cI := num_ContainsFunc bb i (cap - i) (segL cs i (i + sz)) 120 #[.pointer (some ⟨w.heap.size, 0, none⟩), .pointer (some ⟨w.heap.size + 1, 0, none⟩)] (fun c => !withinB fold am c) wr hna (by omega) (enters_of Tryz.func120 (by kernel_rfl) rfl) (class_fn g w.heap.size (w.heap.size + 1) 0 0 a cap m cs vs fold nm am sz _ wr hm4 (by omega) k3 (by omega) k4 hle)
          rw [hll] at cI
          have hall : (segL cs i (i + sz)).all (withinB fold am) = !((segL cs i (i + sz)).any fun c => !withinB fold am c) := by rw [List.all_eq_not_any_not]
          have hnew := fun j => clsD_set (fold := fold) (cs := cs) (am := am) (sz := sz) hfr j
          have cn := hr.cell (i := i + sz) hto
          have e2 : boolsF (clsD fold cs am sz fr i) (i + sz) = .bool false := by
            show Value.bool (clsD fold cs am sz fr i (i + sz)) = _
            unfold clsD
            rw [decide_eq_false (by omega)]; rfl
          rw [e2] at cn
          have y1 : (0 : Int) ≤ (i : Int) + (sz : Int) := by omega
          have y2 : (i : Int) + (sz : Int) < (m : Int) + 1 := by omega
          have y3 : ((i : Int) + (sz : Int)).toNat = i + sz := by omega
          have y4 : (i : Int) + (sz : Int) ≤ (cap : Int) := by omega
          have y5 : i + sz - i = sz := by omega
          have y6 : (i : Int) ≤ (i : Int) + (sz : Int) := by omega
          rw [ha] at q0
          have hgnl := hr.lt
          have hb1 : w.heap.size < wr.heap.size := by omega
          have hb2 : w.heap.size + 1 < wr.heap.size := by omega
          have CI := Lib.hid cI
          have HALL := Lib.hid hall
          have HNEW := Lib.hid hnew
          clear cI hall hnew hll hna hle hcl hm4 hc0 e1 e2 hfr ha hmn hto hm3 hm hf hf3 hfi
          generalize (segL cs i (i + sz)).any (fun c => !withinB fold am c) = r at *
          generalize (segL cs i (i + sz)).all (withinB fold am) = al at *
          go_wp2_with fail
          refine CI.out.mono ?_
          rintro e w5 ⟨rfl, hb5⟩
          have hr5 := row_below hr hb5
          have hg5 := Bg hgr hb5
          have cn5 := (hb5.cell (p := ⟨w.heap.size + 2, i + sz, none⟩) hgnl).trans cn
          have fz5 := hr5.frozen (i + sz)
          have hgl5 := hr5.lt
          have hset := hr5.set (i + sz) (.bool (!r))
          have hgset := only_setCell hg5 (p := ⟨w.heap.size + 2, i + sz, none⟩) (.inl rfl) (.bool (!r))
          have hfin := hset.congr (g := boolsF (clsD fold cs am sz fr (i + 1))) (fun j _ => by
            show _ = Value.bool (clsD fold cs am sz fr (i + 1) j)
            rw [HNEW.out j, HALL.out]
            by_cases hj : j = i + sz
            · rw [if_pos hj, if_pos hj]
            · rw [if_neg hj, if_neg hj]; rfl)
          have HFIN := Lib.hid hfin
          have HGS := Lib.hid hgset
          clear hset hgset hfin hr hgr hr5 hg5 HNEW HALL CI cn k3 k4 k5 q0 hb5
          go_wp2_with fail
          go_roundw
          case rel => exact ⟨i + 1, by omega, by go_num, HFIN.out, HGS.out⟩
          case measure => simp [intOf]; omega
        · have htI : (m : Int) + 1 ≤ (i : Int) + (sz : Int) := by omega
          have hr2 := Lib.hid (hr.congr (g := boolsF (clsD fold cs am sz fr (i + 1))) fun j hj => by show Value.bool _ = Value.bool _; rw [clsD_far (by omega) j hj])
          clear hfr hr hto
          go_wp2_with fail
          go_roundw
          case rel => exact ⟨i + 1, by omega, by go_num, hr2.out, hgr⟩
          case measure => simp [intOf]; omega
    · obtain rfl : i = m + 1 := by omega
      have hmI : ¬ ((m : Int) + 1 < (m : Int) + 1) := by omega
      go_wp2_with fail
      go_ret
      exact ⟨w.heap.size + 2, rfl, hr.congr fun j hj => by
        show Value.bool (clsD fold cs am sz fr (m + 1) j) = Value.bool (clsR fold cs am sz fr j)
        unfold clsD
        rw [decide_eq_true (by omega)]; simp, by omega, hst3.grown hgr (by omega) (fun j hj => by cases hj; omega)⟩
end Go.Proofs.YtkgifenidmbdkaaGreatDoor

/- subst's matcher: step. -/
namespace Go.Proofs.YtkgifenidmbdkaaGreatDoor
open Go.RowKit

def StepPost (m : Nat) (R : Nat → Bool) (w : World) (e : Ending) (w' : World) : Prop := ∃ gn, e = .returned (.slice (some ⟨gn, 0, none⟩) (m + 1) (m + 1)) ∧ w'.rowIs gn 4 (m + 1) (boolsF R) ∧ w.heap.size ≤ gn ∧ Below w.heap.size w w'
theorem grown_fresh {w w1 w' : World} {gx : Nat} (hb : Below w.heap.size w w1) (hg : w1.grownBy w' (some gx)) (hx : w.heap.size ≤ gx) : Below w.heap.size w w' := hb.grown hg hb.size (fun j hj => by cases hj; exact hx)
theorem row_not_str {w : World} {g n j : Nat} {t : TypeId} {F : Nat → Bool} {s : ByteArray} (h : w.rowIs g t n (boolsF F)) (hc : w.cell? ⟨g, j, none⟩ = some (.string s)) : False := by
  obtain ⟨c, hh, hn, hf⟩ := h
  rw [cell_of_row w g j _ _ _ hh] at hc
  have hj : j < n := by
    have := (Array.getElem?_eq_some_iff.1 hc).1
    omega
  rw [hf j hj] at hc
  cases hc
theorem StrsV.grown {w w' : World} {u : Value} {l : List ByteArray} {g n : Nat} {t : TypeId} {F : Nat → Bool} (h : StrsV w u l) (hg : w.grownBy w' (some g)) (hr : w.rowIs g t n (boolsF F)) : StrsV w' u l := by
  obtain ⟨a, cap, e, hc, h⟩ := h
  refine ⟨a, cap, e, hc, fun i s hs => ?_⟩
  obtain ⟨b, off, e2, hlt, hcell⟩ := h i s hs
  have hne : b ≠ g := by
    rintro rfl
    exact row_not_str hr hcell
  exact ⟨b, off, e2, Nat.lt_of_lt_of_le hlt hg.size, (cell_grown hg (p := ⟨b, _, none⟩) hlt hne).trans hcell⟩
set_option maxHeartbeats 6400000 in
set_option maxRecDepth 100000 in
theorem sub_step (g gf c1 m cap vcap : Nat) (a av : Option Addr) (vars : List SVar) (cs : List Nat) (q : PcS) (fr : Nat → Bool) (fold : Bool) (w : World) (hU : Utf8Laid w) (hL : ClassLaid w) (hm : MatAt w g a m cap cs (.slice av vars.length vcap) fold) (hv : VarsSl w av vars) (hm2 : m ≤ 16777216) (hcap : m ≤ cap)
    (hf : w.rowIs gf 4 (m + 1) (boolsF fr)) (hcs : ∀ c ∈ cs, c ≤ 1114111) (hq : q.text.size ≤ 16777216) (hvl : vars.length ≤ 16777216) (hvs : ∀ v ∈ vars, v.2.length ≤ 16777216 ∧ ∀ s ∈ v.2, s.size ≤ 16777216) :
    Calls Tryz.prog 49 #[.pointer (some ⟨g, 0, none⟩), .agg #[.string q.text, .bool q.isVar, .int .i64 (q.place : Int)], .slice (some ⟨gf, 0, none⟩) (m + 1) c1] w (StepPost m (stepR fold cs vars q fr) w) := by
  obtain ⟨tx, iv, pl⟩ := q
  simp only at hq
  simp only
  have hst1 : Below w.heap.size w (w.alloc (.cells #[.string tx, .bool iv, .int .i64 (pl : Int)] 94)) := (Below.refl _ _).alloc (Nat.le_refl _) _
  have hrn := World.rowIs_made (w.alloc (.cells #[.string tx, .bool iv, .int .i64 (pl : Int)] 94)) (.bool false) (m + 1) 4
  rw [World.size_alloc] at hrn
  have hst2 := hst1.alloc (by simp) (.cells (madeCells #[.bool false] (m + 1)) 4)
  have hB1 : Below (w.alloc (.cells #[.string tx, .bool iv, .int .i64 (pl : Int)] 94)).heap.size (w.alloc (.cells #[.string tx, .bool iv, .int .i64 (pl : Int)] 94)) ((w.alloc (.cells #[.string tx, .bool iv, .int .i64 (pl : Int)] 94)).alloc (.cells (madeCells #[.bool false] (m + 1)) 4)) := (Below.refl _ _).alloc (Nat.le_refl _) _
  have hq0 := heap_alloc_new w (.cells #[.string tx, .bool iv, .int .i64 (pl : Int)] 94)
  have t0 := (hB1.cell (p := ⟨w.heap.size, 0, none⟩) (by simp)).trans (cell_of_row _ _ 0 _ _ _ hq0)
  have t1 := (hB1.cell (p := ⟨w.heap.size, 1, none⟩) (by simp)).trans (cell_of_row _ _ 1 _ _ _ hq0)
  rw [show (#[Value.string tx, .bool iv, .int .i64 (pl : Int)] : Array Value)[0]? = some (.string tx) from rfl] at t0
  rw [show (#[Value.string tx, .bool iv, .int .i64 (pl : Int)] : Array Value)[1]? = some (.bool iv) from rfl] at t1
  have hmk := make_bools m hm2
  have hm3 := hm.below hst2
  have hf3 := row_below hf hst2
  have hU3 := hU.below hst2
  have hL3 := hL.below hst2
  have hv3 := hv.below hst2
  have hfw := hf.lt
  have hsz := hrn.lt
  have HMM := Lib.hid hm
  have HFF := Lib.hid hf
  have HUU := Lib.hid hU
  clear hst1 hB1 hq0 hm hf hU hL hv
  go_enter Tryz.func49, Tryz.ntmps49
  cases iv with
  | false =>
    go_wp2_with fail
    have hR : ∀ j, stepR fold cs vars ⟨tx, false, pl⟩ fr j = (false || patR fold cs tx fr j) := fun j => by unfold stepR; simp
    have HR := Lib.hid hR
    clear hR
    refine (sub_pattern g gf (w.heap.size + 1) c1 (m + 1) m cap a tx cs _ fr (fun _ => false) fold _ hU3 hq hm3 hm2 hf3 hrn (by omega) hcs).mono ?_
    rintro e w4 ⟨rfl, hr4, hg4⟩
    have hb4 := grown_fresh hst2 hg4 (by omega)
    clear hst2 hg4 hm3 hf3 hU3 hL3 hv3 hrn t0 t1
    go_wp2_with fail
    go_ret
    exact ⟨w.heap.size + 1, rfl, hr4.congr fun j _ => by show Value.bool _ = Value.bool _; rw [HR.out], by omega, hb4⟩
  | true =>
    go_wp2_with fail
    refine (sub_own tx _ hL3).mono ?_
    rintro e w4 ⟨ho, hb4⟩
    rcases ho with ⟨ho, rfl⟩ | ⟨nm, am, sz, ho, hs1, hs2, rfl⟩
    · have hR : ∀ j, stepR fold cs vars ⟨tx, true, pl⟩ fr j = ((findV vars tx).getD []).any fun v => patR fold cs v fr j := fun j => by unfold stepR; rw [if_pos rfl, ho]
      have HR := Lib.hid hR
      have hal : Below w4.heap.size w4 (w4.alloc (.cells #[.string ⟨#[]⟩, .string ⟨#[]⟩, .int .i64 0] 148)) := (Below.refl _ _).alloc (Nat.le_refl _) _
      have hb5 := Bt hb4 hal
      have hm5 := hm3.below hb5
      have hv5 := hv3.below hb5
      have hr5 := row_below hrn hb5
      have t05 := (hb5.cell (p := ⟨w.heap.size, 0, none⟩) (by show w.heap.size < _; omega)).trans t0
      have hb05 := Bt hst2 hb5
      have hw5 : w.heap.size < (w4.alloc (.cells #[.string ⟨#[]⟩, .string ⟨#[]⟩, .int .i64 0] 148)).heap.size := by have := hb5.size; omega
      have hLs : ∀ s ∈ (findV vars tx).getD [], s.size ≤ 16777216 := by
        unfold findV
        cases hfv : vars.find? (fun v => decide (v.1 = tx)) with
        | none => intro s hs; simp at hs
        | some v => exact (hvs v (List.mem_of_find?_eq_some hfv)).2
      have hLl : ((findV vars tx).getD []).length ≤ 16777216 := by
        unfold findV
        cases hfv : vars.find? (fun v => decide (v.1 = tx)) with
        | none => simp
        | some v => exact (hvs v (List.mem_of_find?_eq_some hfv)).1
      have CV := Lib.hid (fun W h => sub_values' av vcap vars tx W h hvl)
      have HLS := Lib.hid hLs
      clear hR ho hal hb5 hst2 hm3 hf3 hU3 hL3 hv3 hrn t0 t1 hb4 hLs hvs
      generalize (findV vars tx).getD [] = l at *
      generalize (findV vars tx).isSome = bb at *
      go_upto_region 8 with (fail)
      generalize w4.alloc (.cells #[.string ⟨#[]⟩, .string ⟨#[]⟩, .int .i64 0] 148) = w5 at *
      have hgl5 := hm5.1
      have m1 := hm5.2.2.1
      clear hm5
      go_cut [10] (fun v wx => StrsV wx v l ∧ Below w5.heap.size w5 wx)
      case first =>
        have hd := (Below.refl w5.heap.size w5).drew
        have hS : ∀ W, Below w5.heap.size w5 W → W.cell? ⟨g, 1, none⟩ = some (.slice av vars.length vcap) ∧ W.cell? ⟨w.heap.size, 0, none⟩ = some (.string tx) ∧ Below w5.heap.size w5 W := fun W hb => ⟨(hb.cell (p := ⟨g, 1, none⟩) hgl5).trans m1, (hb.cell (p := ⟨w.heap.size, 0, none⟩) hw5).trans t05, hb⟩
        have HS := Lib.hid hS
        have HV := Lib.hid hv5
        clear hS hv5 hr5 HMM HFF HUU HLS HR hb05
        first
        | (go_region_held (fun W => W.cell? ⟨g, 1, none⟩ = some (.slice av vars.length vcap) ∧ W.cell? ⟨w.heap.size, 0, none⟩ = some (.string tx) ∧ Below w5.heap.size w5 W) (first | assumption | exact HS.out _ (by assumption))
            ((go_at_call 44; refine (CV.out _ (HV.out.below (by assumption))).mono ?_; rintro e w6 ⟨u, rfl, hsv, hk6⟩; have hk7 := Bt (by assumption) hk6; dsimp only)))
        | fail
        all_goals
          go_wp2_with fail
          go_meet
          exact ⟨hsv, by assumption⟩
      case rest =>
        obtain ⟨hsv, hbc⟩ := hcut
        have hrc := row_below hr5 hbc
        have hb0c := Bt hb05 hbc
        have hsv0 := hsv
        obtain ⟨pa, pcap, rfl, hpl, _⟩ := hsv0
        clear hv5 hr5 t05 hb05 hbc m1 CV hmk
        go_wp2_with fail
        go_loopw [50] (fun x wr => ∃ i : Nat, i ≤ l.length ∧ x = .int .i64 i ∧ wr.rowIs (w.heap.size + 1) 4 (m + 1) (boolsF fun j => (l.take i).any fun v => patR fold cs v fr j) ∧ StrsV wr (.slice pa l.length pcap) l ∧ Below w.heap.size w wr) (fun x _ => l.length - (intOf x).toNat)
        case atStart => exact ⟨0, Nat.zero_le _, rfl, hrc.congr fun j _ => by show Value.bool false = Value.bool _; simp, hsv, hb0c⟩
        case round =>
          obtain ⟨i, hil, rfl, hr, hs, hbr⟩ := hrel
          clear hrc hsv hb0c
          by_cases hlt : i < l.length
          · have hiI : (i : Int) < (l.length : Int) := by omega
            obtain ⟨s, hls⟩ : ∃ s, l[i]? = some s := ⟨_, List.getElem?_eq_getElem hlt⟩
            obtain ⟨pa', cap', e1, _, hcell⟩ := hs
            have hs2 : StrsV wr (.slice pa l.length pcap) l := ⟨pa', cap', e1, by assumption, hcell⟩
            cases e1
            obtain ⟨b, off, hpa, hbw, hce⟩ := hcell i s hls
            have hsz2 := HLS.out s (List.mem_of_getElem? hls)
            have htk : ∀ j, ((l.take (i + 1)).any fun v => patR fold cs v fr j) = (((l.take i).any fun v => patR fold cs v fr j) || patR fold cs s fr j) := fun j => by
              rw [List.take_add_one, hls, List.any_append]
              simp
            have hP := fun W h1 h2 h3 h4 => sub_pattern g gf (w.heap.size + 1) c1 (m + 1) m cap a s cs (.slice av vars.length vcap) fr (fun j => (l.take i).any fun v => patR fold cs v fr j) fold W h1 hsz2 h2 hm2 h3 h4 (by omega) hcs
            have HP := Lib.hid hP
            have HTK := Lib.hid htk
            have HS2 := Lib.hid hs2
            have HPA := Lib.hid hpa
            clear hP htk hls hcell hs2
            subst hpa
            go_wp2_with fail
            refine (HP.out _ (HUU.out.below hbr) (HMM.out.below hbr) (row_below HFF.out hbr) hr).mono ?_
            rintro e w7 ⟨rfl, hr7, hg7⟩
            have hb7 := grown_fresh hbr hg7 (by omega)
            have hs7 := HS2.out.grown hg7 hr
            clear hr hbr hg7 HP HS2
            go_wp2_with fail
            go_roundw
            case rel => exact ⟨i + 1, by omega, by go_num, hr7.congr fun j _ => congrArg Value.bool (HTK.out j).symm, hs7, hb7⟩
            case measure => simp [intOf]; omega
          · obtain rfl : i = l.length := by omega
            go_wp2_with fail
            go_ret
            exact ⟨w.heap.size + 1, rfl, hr.congr fun j _ => by
              show Value.bool ((l.take l.length).any fun v => patR fold cs v fr j) = Value.bool _
              rw [List.take_length, HR.out], by omega, hbr⟩
    · have hR : ∀ j, stepR fold cs vars ⟨tx, true, pl⟩ fr j = clsR fold cs am sz fr j := fun j => by unfold stepR; rw [if_pos rfl, ho]
      have HR := Lib.hid hR
      have hal : Below w4.heap.size w4 (w4.alloc (.cells #[.string nm, .string am, .int .i64 (sz : Int)] 148)) := (Below.refl _ _).alloc (Nat.le_refl _) _
      have hb5 := Bt hb4 hal
      have hm5 := hm3.below hb5
      have hf5 := row_below hf3 hb5
      have hb05 := Bt hst2 hb5
      have hle := hb05.size
      have hld := load_cls (heap_alloc_new w4 (.cells #[.string nm, .string am, .int .i64 (sz : Int)] 148))
      clear hR ho hal hb5 hst2 hm3 hf3 hU3 hL3 hv3 hrn t0 t1 hb4
      go_wp2_with fail
      refine (sub_class g gf c1 m cap sz a cs _ fr fold nm am _ hm5 hm2 hs1 hs2 hf5 hcs hcap).mono ?_
      rintro e w6 ⟨gn, rfl, hr6, hgn, hb6⟩
      have hb06 := Bt hb05 hb6
      clear hm5 hf5 hld hb6
      go_wp2_with fail
      go_ret
      exact ⟨gn, rfl, hr6.congr fun j _ => by show Value.bool _ = Value.bool _; rw [HR.out], by omega, hb06⟩
end Go.Proofs.YtkgifenidmbdkaaGreatDoor
