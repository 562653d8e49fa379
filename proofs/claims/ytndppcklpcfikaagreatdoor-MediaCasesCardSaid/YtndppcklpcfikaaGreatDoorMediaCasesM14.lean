/- strings.Replacer: build, of marks that are bytes and what stands for them. -/
import Derived.Test.YtndppcklpcfikaaGreatDoorMediaCasesM13
import Derived.Handy
import Derived.Test.YtndppcklpcfikaaGreatDoorMediaCasesM2
import Derived.Lib.SliceRun
import Derived.Deep.OwnRows
import Derived.Test.YtndppcklpcfikaaGreatDoorMediaCasesM4

namespace Go.Proofs.YtndppcklpcfikaaGreatDoor
open Go.RowKit

theorem eql_nilB (w : World) (a : Option Addr) (n c : Nat) : (binOp .eql 58 (.slice a n c) (.slice none 0 0)).run Tryz.prog w = .ok (.bool a.isNone) w := Lib.run_eql_slice_nil w _ _ a n c 0 0 Tryz.underlying58
theorem neq_nilB (w : World) (a : Option Addr) (n c : Nat) : (binOp .neq 58 (.slice a n c) (.slice none 0 0)).run Tryz.prog w = .ok (.bool (!a.isNone)) w := run_neq_slice_nil_any w _ _ a n c 0 0 Tryz.underlying58
/-- What is handed to NewReplacer: four strings. -/
def oldC : Array Value := #[.string ⟨#[34]⟩, .string ⟨#[92, 34]⟩, .string ⟨#[92]⟩, .string ⟨#[92, 92]⟩]
theorem zrep : Tryz.zeroCells156 = (List.replicate 257 (Value.slice none 0 0)).toArray := by kernel_rfl
theorem size_rep : (Tryz.prog.info? 156).map (·.size) = some 257 := by kernel_rfl
/-- A replacer's cells, before anything is to be replaced: what lies at the end. -/
noncomputable def repZ (vt : Value) : Array Value := (Tryz.zeroCells156.toList.set 256 vt).toArray
def repF (vt : Value) : Nat → Value := fun i => if i = 256 then vt else .slice none 0 0
theorem repZ_is (vt : Value) : repZ vt = ((List.replicate 257 (Value.slice none 0 0)).set 256 vt).toArray := by
  unfold repZ
  rw [zrep]
theorem repZ_size (vt : Value) : (repZ vt).size = 257 := by rw [repZ_is, List.size_toArray, List.length_set, List.length_replicate]
theorem repZ_all (vt : Value) (h : vt.oneCell' = true) : (repZ vt).all (·.oneCell') = true := by
  rw [repZ_is, List.all_toArray, List.all_eq_true]
  intro x hx
  rcases List.mem_or_eq_of_mem_set hx with h1 | h1
  · rw [List.eq_of_mem_replicate h1]; rfl
  · rw [h1]; exact h
theorem repZ_at (vt : Value) (i : Nat) (hi : i < 257) : (repZ vt)[i]? = some (repF vt i) := by
  rw [repZ_is]
  unfold repF
  rw [List.getElem?_toArray, List.getElem?_set, List.length_replicate]
  by_cases h : i = 256
  · subst h; rfl
  · rw [if_neg (fun e => h e.symm), if_neg h, List.getElem?_replicate, if_pos hi]
/-- What build leaves: what stands for a quote and for a backslash, and the two marks. -/
def RepAt (w : World) (B g : Nat) : Prop := ∃ (p q t cp cq : Nat) (f : Nat → Value), (B ≤ g ∧ B ≤ p ∧ B ≤ q ∧ B ≤ t) ∧ w.rowIs g 156 257 f ∧ (∀ i, i < 256 → i ≠ 34 → i ≠ 92 → f i = .slice none 0 0) ∧ f 34 = .slice (some ⟨p, 0, none⟩) 2 cp ∧ BytesAt w p [92, 34] ∧ f 92 = .slice (some ⟨q, 0, none⟩) 2 cq ∧ BytesAt w q [92, 92] ∧ f 256 = .slice (some ⟨t, 0, none⟩) 2 2 ∧ w.cell? ⟨t, 0, none⟩ = some (.string ⟨#[92]⟩) ∧ w.cell? ⟨t, 1, none⟩ = some (.string ⟨#[34]⟩)
theorem lt_of_cell {w : World} {a : Addr} {v : Value} (h : w.cell? a = some v) : a.block < w.heap.size := by
  unfold World.cell? at h
  cases hh : w.heap[a.block]? with
  | none => rw [hh] at h; simp at h
  | some o => exact (Array.getElem?_eq_some_iff.1 hh).1
theorem RepAt.below {w w' : World} {B g : Nat} (h : RepAt w B g) (hb : Below w.heap.size w w') : RepAt w' B g := by
  obtain ⟨p, q, t, cp, cq, f, hB, hr, h1, h2, h3, h4, h5, h6, h7, h8⟩ := h
  exact ⟨p, q, t, cp, cq, f, hB, hr.of_block (hb.block g hr.lt), h1, h2, h3.below hb h3.lt, h4, h5.below hb h5.lt, h6, (hb.cell (p := ⟨t, 0, none⟩) (lt_of_cell h7)).trans h7, (hb.cell (p := ⟨t, 1, none⟩) (lt_of_cell h8)).trans h8⟩
theorem RepAt.stored {w : World} {B g : Nat} (h : RepAt w B g) {a : Addr} (ha : a.block < B) (u : Value) : RepAt (w.setCell a u) B g := by
  obtain ⟨p, q, t, cp, cq, f, hB, hr, h1, h2, h3, h4, h5, h6, h7, h8⟩ := h
  obtain ⟨b1, b2, b3, b4⟩ := hB
  exact ⟨p, q, t, cp, cq, f, ⟨b1, b2, b3, b4⟩, hr.setOther (by omega) u, h1, h2, h3.stored (by omega) u, h4, h5.stored (by omega) u, h6, (World.cell?_setCell_other w a ⟨t, 0, none⟩ u (fun e => by rw [e] at ha; simp at ha; omega)).trans h7, (World.cell?_setCell_other w a ⟨t, 1, none⟩ u (fun e => by rw [e] at ha; simp at ha; omega)).trans h8⟩
theorem RepAt.drew {w : World} {B g : Nat} (h : RepAt w B g) : RepAt w.drew B g := h
theorem one_cell {w : World} {b : Nat} {v : Value} (h : w.cell? ⟨b, 0, none⟩ = some v) : ∀ j u, [v][j]? = some u → w.cell? ((⟨b, 0, none⟩ : Addr).add j) = some u := by
  intro j u hj
  match j, hj with
  | 0, hj =>
    simp at hj; subst hj
    rw [Addr.add_lit]; exact h
section
variable {w : World} {ops : Array Oper} {rest : List Oper} {o : Oper} {a : Act} {Q : Exit → Act → World → Prop}
theorem wpList_store_rep (hgd : o.guard = none) (x y : Operand) (ho : o.op = .store 156 x y) (vt : Value) (hx : a.eval x = .pointer (some ⟨w.heap.size, 0, none⟩)) (hy : a.eval y = .agg (repZ vt)) (one : vt.oneCell' = true)
    (h : ∀ w', w'.rowIs w.heap.size 156 257 (repF vt) → Below w.heap.size w w' → wpList Tryz.prog ops Q rest (a.put o.dst undef) w') : wpList Tryz.prog ops Q (o :: rest) a (w.alloc (.cells Tryz.zeroCells156 156)) := by
  have hn := heap_alloc_new w (.cells Tryz.zeroCells156 156)
  refine wpList_store_row hgd _ x y ho w.heap.size (repZ vt) hx hy _ _ hn (by rw [size_rep, repZ_size]) (by rw [repZ_size, zrep, List.size_toArray, List.length_replicate]) (repZ_all vt one) (h _ ?_ ?_)
  · exact ⟨repZ vt, setRow_heap _ _ _ _ _ _ hn, repZ_size vt, repZ_at vt⟩
  · exact below_setRowI ((Below.refl _ _).alloc (Nat.le_refl _) _) (Nat.le_refl _) _
end
set_option maxHeartbeats 3200000 in
set_option maxRecDepth 100000 in
theorem rep_build (b q c : Nat) (w : World) (hq : w.cell? ⟨b, 4, none⟩ = some (.slice (some ⟨q, 0, none⟩) 4 c))
    (hbl : b < w.heap.size) (hql : q < w.heap.size) (q0 : w.cell? ⟨q, 0, none⟩ = some (.string ⟨#[34]⟩)) (q1 : w.cell? ⟨q, 1, none⟩ = some (.string ⟨#[92, 34]⟩)) (q2 : w.cell? ⟨q, 2, none⟩ = some (.string ⟨#[92]⟩)) (q3 : w.cell? ⟨q, 3, none⟩ = some (.string ⟨#[92, 92]⟩)) :
    Calls Tryz.prog 76 #[.pointer (some ⟨b, 0, none⟩)] w fun e w' => ∃ g, e = .returned (.iface 157 (.pointer (some ⟨g, 0, none⟩))) ∧ RepAt w' w.heap.size g ∧ Below w.heap.size w w' := by
  have i92 : ({ data := #[92] } : ByteArray)[0].toNat = 92 := rfl
  have i34 : ({ data := #[34] } : ByteArray)[0].toNat = 34 := rfl
  have hnil := eql_nilB
  have HQ := Lib.hid (And.intro hq (And.intro q0 (And.intro q1 (And.intro q2 q3))))
  obtain ⟨i0, hi, hz0, hz1, hz2⟩ := info_parts info_strS
  go_enter Tryz.func76, Tryz.ntmps76
  go_wp2_with fail
  refine wp_loop_rounds 3 ?_
  rw [rounds_succ]
  go_wp2_with fail
  rw [rounds_succ]
  go_wp2_with fail
  rw [rounds_succ]
  go_wp2_with (refine wpList_make_own _ rfl _ _ 91 rfl w.heap.size 9 i0 (.string ByteArray.empty) 1 Tryz.underlying91 hi hz0 hz1 .i64 .i64 _ 2 rfl rfl rfl (by rw [hz2]; decide) (by decide) (Nat.le_refl _) ?_)
  intro w1 hown1 hg1
  have hb1 : Below w.heap.size w w1 := (Below.refl _ _).grown hg1 (Nat.le_refl _) (fun j hj => by cases hj)
  have hs1 : w.heap.size < w1.heap.size := (World.ownsRow.lt hown1 _ rfl).2
  replace hq := (hb1.cell (p := ⟨b, 4, none⟩) hbl).trans hq
  replace q0 := (hb1.cell (p := ⟨q, 0, none⟩) hql).trans q0
  replace q1 := (hb1.cell (p := ⟨q, 1, none⟩) hql).trans q1
  replace q2 := (hb1.cell (p := ⟨q, 2, none⟩) hql).trans q2
  replace q3 := (hb1.cell (p := ⟨q, 3, none⟩) hql).trans q3
  clear hg1
  have HOWN := Lib.hid hown1
  clear hown1
  go_wp2_with (refine wpList_store_rep (o := ⟨none, _, _, _, _, _⟩) rfl _ _ rfl (.slice (some ⟨w.heap.size, 0, none⟩) 0 2) rfl rfl rfl ?_)
  intro w2 hr2 hb2
  replace hq := (hb2.cell (p := ⟨b, 4, none⟩) (show b < w1.heap.size by omega)).trans hq
  replace q0 := (hb2.cell (p := ⟨q, 0, none⟩) (show q < w1.heap.size by omega)).trans q0
  replace q1 := (hb2.cell (p := ⟨q, 1, none⟩) (show q < w1.heap.size by omega)).trans q1
  replace q2 := (hb2.cell (p := ⟨q, 2, none⟩) (show q < w1.heap.size by omega)).trans q2
  replace q3 := (hb2.cell (p := ⟨q, 3, none⟩) (show q < w1.heap.size by omega)).trans q3
  have HO2 := Lib.hid (ownsRow_below HOWN.out hb2)
  have hb02 := Bt hb1 hb2
  have HR2 := Lib.hid hr2
  have c92 := hr2.cell (i := 92) (by decide)
  have c256 := hr2.cell (i := 256) (by decide)
  have z92 := hr2.frozen 92
  have z256 := hr2.frozen 256
  dsimp only [repF] at c92 c256
  rw [if_neg (by decide)] at c92
  rw [if_pos rfl] at c256
  have hs2 := hb2.size
  clear HOWN hb1 hb2 hr2
  have hbs2 : (convert 58 9 (.slice (some ⟨w2.heap.size, 0, none⟩) 1 1)).run Tryz.prog (w2.alloc (.cells #[.int .u8 92] 5)) = .ok (.string ⟨#[92]⟩) (w2.alloc (.cells #[.int .u8 92] 5)) := byte_string 92 w2
  generalize w1.heap.size = g at *
  go_wp2_with fail
  refine wp_loop_rounds 3 ?_
  rw [rounds_succ]
  have hs3 : ((w2.alloc (.cells #[.int .u8 92] 5)).alloc (.cells #[.string ⟨#[92]⟩] 9)).heap.size = w2.heap.size + 2 := by simp
  have hbA : Below w2.heap.size w2 ((w2.alloc (.cells #[.int .u8 92] 5)).alloc (.cells #[.string ⟨#[92]⟩] 9)) := ((Below.refl _ _).alloc (Nat.le_refl _) _).alloc (by simp) _
  have HOA := Lib.hid (ownsRow_below HO2.out hbA)
  have k0 : ((w2.alloc (.cells #[.int .u8 92] 5)).alloc (.cells #[.string ⟨#[92]⟩] 9)).cell? ⟨w2.heap.size + 1, 0, none⟩ = some (.string ⟨#[92]⟩) := by
    have := heap_alloc_new (w2.alloc (.cells #[.int .u8 92] 5)) (.cells #[.string ⟨#[92]⟩] 9)
    rw [World.size_alloc] at this
    rw [cell_of_row _ _ 0 _ _ _ this]; rfl
  go_wp2_with (at_builtin; go_loud (refine wpList_append_fits _ rfl _ _ 91 rfl w.heap.size 9 i0 1 Tryz.underlying91 hi hz1 w.heap.size 0 2 [] rfl HOA.out ⟨w2.heap.size + 1, 0, none⟩ 1 1 [.string ⟨#[92]⟩] rfl rfl (one_cell k0) (by simp [Value.oneCell']) (by decide) ?_))
  intro w3 hown3 hg3
  have hb03 : Below w.heap.size w w3 := (hb02.trans (hbA.mono hb02.size)).grown hg3 (by have := hb02.size; simp; omega) (fun j hj => by injection hj with hj; omega)
  have hr3 : w3.rowIs g 156 257 (repF (.slice (some ⟨w.heap.size, 0, none⟩) 0 2)) := ((HR2.out.alloc _).alloc _).of_block (hg3.block g (by have := HR2.out.lt; simp; omega) (fun e => by injection e with e; omega))
  have d256 : w3.cell? ⟨g, 256, none⟩ = some (.slice (some ⟨w.heap.size, 0, none⟩) 0 2) := hr3.cell (i := 256) (by decide)
  have y256 := hr3.frozen 256
  have hr4 := hr3.set 256 (.slice (some ⟨w.heap.size, 0, none⟩) 1 2)
  have hb04 : Below w.heap.size w (w3.setCell ⟨g, 256, none⟩ (.slice (some ⟨w.heap.size, 0, none⟩) 1 2)) := hb03.setCell (show w.heap.size ≤ g by omega) _
  have ho4 := ownsRow_setCell_other hown3 (a := ⟨g, 256, none⟩) (by show some w.heap.size ≠ some g; intro e; injection e with e; omega) (.slice (some ⟨w.heap.size, 0, none⟩) 1 2)
  have hs4 : g < (w3.setCell ⟨g, 256, none⟩ (.slice (some ⟨w.heap.size, 0, none⟩) 1 2)).heap.size := by simpa using hr3.lt
  have HR4 := Lib.hid hr4
  have HB4 := Lib.hid hb04
  have HO4 := Lib.hid ho4
  clear hq q0 q1 q2 q3 c92 c256 z92 z256 HO2 HR2 hb02 hs2 hs3 hbA HOA k0 hown3 hg3 hb03 hr3 hr4 hb04 ho4
  go_wp2_with ((with_reducible refine wpList_bytes (o := ⟨some _, _, _, _, _, _⟩) rfl 9 58 5 _ rfl ⟨#[92, 92]⟩ rfl Tryz.underlying9 Tryz.underlying58 Tryz.underlying5 ?_); intro cap5 w5 hcap5 hB5 hb5 hsz5; have hr5 := HR4.out.of_block (hb5.block g hs4); have d92 : w5.cell? ⟨g, 92, none⟩ = some (.slice none 0 0) := hr5.cell (i := 92) (by decide); have y92 := hr5.frozen 92)
  have hb05 := HB4.out.trans (hb5.mono HB4.out.size)
  have ho5 := ownsRow_below HO4.out hb5
  have hB5' : BytesAt w5 w3.heap.size [92, 92] := by simpa using hB5
  have hp3 : g < w3.heap.size := by simpa using hs4
  clear HR4 HB4 HO4 hb5 hsz5 d256 y256 hB5 hs4
  generalize w3.heap.size = p at *
  have hr6 := hr5.set 92 (.slice (some ⟨p, 0, none⟩) 2 cap5)
  have hb06 : Below w.heap.size w (w5.setCell ⟨g, 92, none⟩ (.slice (some ⟨p, 0, none⟩) 2 cap5)) := hb05.setCell (show w.heap.size ≤ g by omega) _
  have ho6 := ownsRow_setCell_other ho5 (a := ⟨g, 92, none⟩) (by show some w.heap.size ≠ some g; intro e; injection e with e; omega) (.slice (some ⟨p, 0, none⟩) 2 cap5)
  have hB6 := hB5'.stored (a := ⟨g, 92, none⟩) (by show g ≠ p; omega) (.slice (some ⟨p, 0, none⟩) 2 cap5)
  clear hr5 hb05 ho5 hB5'
  generalize w5.setCell ⟨g, 92, none⟩ (.slice (some ⟨p, 0, none⟩) 2 cap5) = w6 at *
  have HR6 := Lib.hid hr6
  have HB6 := Lib.hid hb06
  have HO6 := Lib.hid ho6
  have HY6 := Lib.hid hB6
  obtain ⟨hq, q0, q1, q2, q3⟩ := HQ.out
  replace hq := (hb06.cell (p := ⟨b, 4, none⟩) hbl).trans hq
  replace q0 := (hb06.cell (p := ⟨q, 0, none⟩) hql).trans q0
  replace q1 := (hb06.cell (p := ⟨q, 1, none⟩) hql).trans q1
  replace q2 := (hb06.cell (p := ⟨q, 2, none⟩) hql).trans q2
  replace q3 := (hb06.cell (p := ⟨q, 3, none⟩) hql).trans q3
  have d34 : w6.cell? ⟨g, 34, none⟩ = some (.slice none 0 0) := hr6.cell (i := 34) (by decide)
  have d256 : w6.cell? ⟨g, 256, none⟩ = some (.slice (some ⟨w.heap.size, 0, none⟩) 1 2) := hr6.cell (i := 256) (by decide)
  have y34 := hr6.frozen 34
  have y256 := hr6.frozen 256
  clear hr6 hb06 ho6 hB6
  have hbs6 : (convert 58 9 (.slice (some ⟨w6.heap.size, 0, none⟩) 1 1)).run Tryz.prog (w6.alloc (.cells #[.int .u8 34] 5)) = .ok (.string ⟨#[34]⟩) (w6.alloc (.cells #[.int .u8 34] 5)) := byte_string 34 w6
  rw [rounds_succ]
  have hs7 : ((w6.alloc (.cells #[.int .u8 34] 5)).alloc (.cells #[.string ⟨#[34]⟩] 9)).heap.size = w6.heap.size + 2 := by simp
  have hbA : Below w6.heap.size w6 ((w6.alloc (.cells #[.int .u8 34] 5)).alloc (.cells #[.string ⟨#[34]⟩] 9)) := ((Below.refl _ _).alloc (Nat.le_refl _) _).alloc (by simp) _
  have HOA := Lib.hid (ownsRow_below HO6.out hbA)
  have k0 : ((w6.alloc (.cells #[.int .u8 34] 5)).alloc (.cells #[.string ⟨#[34]⟩] 9)).cell? ⟨w6.heap.size + 1, 0, none⟩ = some (.string ⟨#[34]⟩) := by
    have := heap_alloc_new (w6.alloc (.cells #[.int .u8 34] 5)) (.cells #[.string ⟨#[34]⟩] 9)
    rw [World.size_alloc] at this
    rw [cell_of_row _ _ 0 _ _ _ this]; rfl
  go_wp2_with (at_builtin; go_loud (refine wpList_append_fits _ rfl _ _ 91 rfl w.heap.size 9 i0 1 Tryz.underlying91 hi hz1 w.heap.size 1 2 [.string ⟨#[92]⟩] rfl HOA.out ⟨w6.heap.size + 1, 0, none⟩ 1 1 [.string ⟨#[34]⟩] rfl rfl (one_cell k0) (by simp [Value.oneCell']) (by decide) ?_))
  intro w7 hown7 hg7
  have hb07 : Below w.heap.size w w7 := (HB6.out.trans (hbA.mono HB6.out.size)).grown hg7 (by have := HB6.out.size; simp; omega) (fun j hj => by injection hj with hj; omega)
  have hr7 := ((HR6.out.alloc (.cells #[.int .u8 34] 5)).alloc (.cells #[.string ⟨#[34]⟩] 9)).of_block (hg7.block g (by have := HR6.out.lt; simp; omega) (fun e => by injection e with e; omega))
  have hY7 := ((HY6.out.alloc (.cells #[.int .u8 34] 5)).alloc (.cells #[.string ⟨#[34]⟩] 9)).grown hg7 (fun e => by injection e with e; omega)
  have d256 : w7.cell? ⟨g, 256, none⟩ = some (.slice (some ⟨w.heap.size, 0, none⟩) 1 2) := hr7.cell (i := 256) (by decide)
  have y256 := hr7.frozen 256
  have hr8 := hr7.set 256 (.slice (some ⟨w.heap.size, 0, none⟩) 2 2)
  have hb08 : Below w.heap.size w (w7.setCell ⟨g, 256, none⟩ (.slice (some ⟨w.heap.size, 0, none⟩) 2 2)) := hb07.setCell (show w.heap.size ≤ g by omega) _
  have ho8 := ownsRow_setCell_other hown7 (a := ⟨g, 256, none⟩) (by show some w.heap.size ≠ some g; intro e; injection e with e; omega) (.slice (some ⟨w.heap.size, 0, none⟩) 2 2)
  have hY8 := hY7.stored (a := ⟨g, 256, none⟩) (by show g ≠ p; omega) (.slice (some ⟨w.heap.size, 0, none⟩) 2 2)
  have hs8 : g < (w7.setCell ⟨g, 256, none⟩ (.slice (some ⟨w.heap.size, 0, none⟩) 2 2)).heap.size := by simpa using hr7.lt
  have hp8 : p < (w7.setCell ⟨g, 256, none⟩ (.slice (some ⟨w.heap.size, 0, none⟩) 2 2)).heap.size := hY8.lt
  have HR8 := Lib.hid hr8
  have HB8 := Lib.hid hb08
  have HO8 := Lib.hid ho8
  have HY8 := Lib.hid hY8
  clear hq q0 q1 q2 q3 d34 y34 HO6 HR6 HB6 HY6 hs7 hbA HOA k0 hown7 hg7 hb07 hr7 hY7 hr8 hb08 ho8 hY8
  go_wp2_with ((with_reducible refine wpList_bytes (o := ⟨some _, _, _, _, _, _⟩) rfl 9 58 5 _ rfl ⟨#[92, 34]⟩ rfl Tryz.underlying9 Tryz.underlying58 Tryz.underlying5 ?_); intro cap9 w9 hcap9 hB9 hb9 hsz9; have hr9 := HR8.out.of_block (hb9.block g hs8); have d34 : w9.cell? ⟨g, 34, none⟩ = some (.slice none 0 0) := hr9.cell (i := 34) (by decide); have y34 := hr9.frozen 34)
  have hb09 := HB8.out.trans (hb9.mono HB8.out.size)
  have ho9 := ownsRow_below HO8.out hb9
  have hY9 := HY8.out.below hb9 hp8
  have hB9' : BytesAt w9 w7.heap.size [92, 34] := by simpa using hB9
  have hp9 : g < w7.heap.size := by simpa using hs8
  clear HR8 HB8 HO8 HY8 hb9 hsz9 d256 y256 hB9 hs8 hp8
  generalize w7.heap.size = p2 at *
  have hr10 := hr9.set 34 (.slice (some ⟨p2, 0, none⟩) 2 cap9)
  have hb010 : Below w.heap.size w (w9.setCell ⟨g, 34, none⟩ (.slice (some ⟨p2, 0, none⟩) 2 cap9)) := hb09.setCell (show w.heap.size ≤ g by omega) _
  have ho10 := ownsRow_setCell_other ho9 (a := ⟨g, 34, none⟩) (by show some w.heap.size ≠ some g; intro e; injection e with e; omega) (.slice (some ⟨p2, 0, none⟩) 2 cap9)
  have hB10 := hB9'.stored (a := ⟨g, 34, none⟩) (by show g ≠ p2; omega) (.slice (some ⟨p2, 0, none⟩) 2 cap9)
  have hY10 := hY9.stored (a := ⟨g, 34, none⟩) (by show g ≠ p; omega) (.slice (some ⟨p2, 0, none⟩) 2 cap9)
  clear hr9 hb09 ho9 hB9' hY9
  generalize w9.setCell ⟨g, 34, none⟩ (.slice (some ⟨p2, 0, none⟩) 2 cap9) = w10 at *
  have hrep : RepAt w10 w.heap.size g := by
    refine ⟨p2, p, w.heap.size, cap9, cap5, _, ⟨by omega, by omega, by omega, Nat.le_refl _⟩, hr10, ?_, rfl, hB10, rfl, hY10, rfl, (World.ownsRow.cellAt ho10 0 (by decide)).trans rfl, (World.ownsRow.cellAt ho10 1 (by decide)).trans rfl⟩
    intro i hi h1 h2
    simp only [if_neg h1, if_neg h2, if_neg (show ¬ i = 256 by omega), repF]
  have HREP := Lib.hid hrep
  have HB10 := Lib.hid hb010
  clear hr10 hb010 ho10 hB10 hY10 hrep d34 y34
  rw [rounds_succ]
  go_wp2_with fail
  go_ret
  exact ⟨g, rfl, HREP.out, HB10.out⟩
end Go.Proofs.YtndppcklpcfikaaGreatDoor

/- strings.NewReplacer; (*strings.Replacer).buildOnce. -/
namespace Go.Proofs.YtndppcklpcfikaaGreatDoor
open Go.RowKit

/-- A Replacer's cells. -/
def RplAt (w : World) (b : Nat) (x y : Int) (z v : Value) : Prop := w.heap[b]? = some (.cells #[.int .u32 x, .int .i32 y, .int .u32 0, z, v] 107 (0, 0))
section
variable {w w' : World} {b : Nat} {x y : Int} {z v : Value}
theorem RplAt.lt (h : RplAt w b x y z v) : b < w.heap.size := lt_of_block h
theorem RplAt.below (h : RplAt w b x y z v) (hb : Below w.heap.size w w') : RplAt w' b x y z v := (hb.block b h.lt).trans h
theorem RplAt.drew (h : RplAt w b x y z v) : RplAt w.drew b x y z v := h
theorem RplAt.cells (h : RplAt w b x y z v) : w.cell? ⟨b, 0, none⟩ = some (.int .u32 x) ∧ w.cell? ⟨b, 1, none⟩ = some (.int .i32 y) ∧ w.cell? ⟨b, 3, none⟩ = some z ∧ w.cell? ⟨b, 4, none⟩ = some v := by
  unfold RplAt at h
  refine ⟨?_, ?_, ?_, ?_⟩
  · rw [cell_of_row w b 0 _ _ _ h]; rfl
  · rw [cell_of_row w b 1 _ _ _ h]; rfl
  · rw [cell_of_row w b 3 _ _ _ h]; rfl
  · rw [cell_of_row w b 4 _ _ _ h]; rfl
theorem RplAt.frozen (h : RplAt w b x y z v) (j : Nat) : w.frozen? ⟨b, j, none⟩ = false := by
  unfold RplAt at h; simp [World.frozen?, h]
theorem RplAt.set0 (h : RplAt w b x y z v) (x' : Int) : RplAt (w.setCell ⟨b, 0, none⟩ (.int .u32 x')) b x' y z v := by
  unfold RplAt at h ⊢; simp [World.setCell, Array.getElem?_modify, h]
theorem RplAt.set1 (h : RplAt w b x y z v) (y' : Int) : RplAt (w.setCell ⟨b, 1, none⟩ (.int .i32 y')) b x y' z v := by
  unfold RplAt at h ⊢; simp [World.setCell, Array.getElem?_modify, h]
theorem RplAt.set3 (h : RplAt w b x y z v) (z' : Value) : RplAt (w.setCell ⟨b, 3, none⟩ z') b x y z' v := by
  unfold RplAt at h ⊢; simp [World.setCell, Array.getElem?_modify, h]
theorem RplAt.set4 (h : RplAt w b x y z v) (v' : Value) : RplAt (w.setCell ⟨b, 4, none⟩ v') b x y z v' := by
  unfold RplAt at h ⊢; simp [World.setCell, Array.getElem?_modify, h]
end
/-- The four strings in a row of memory. -/
def FourAt (w : World) (q : Nat) : Prop := w.cell? ⟨q, 0, none⟩ = some (.string ⟨#[34]⟩) ∧ w.cell? ⟨q, 1, none⟩ = some (.string ⟨#[92, 34]⟩) ∧ w.cell? ⟨q, 2, none⟩ = some (.string ⟨#[92]⟩) ∧ w.cell? ⟨q, 3, none⟩ = some (.string ⟨#[92, 92]⟩)
theorem FourAt.lt {w : World} {q : Nat} (h : FourAt w q) : q < w.heap.size := lt_of_cell h.1
theorem FourAt.below {w w' : World} {q : Nat} (h : FourAt w q) (hb : Below w.heap.size w w') : FourAt w' q :=
  ⟨(hb.cell (p := ⟨q, 0, none⟩) h.lt).trans h.1, (hb.cell (p := ⟨q, 1, none⟩) h.lt).trans h.2.1, (hb.cell (p := ⟨q, 2, none⟩) h.lt).trans h.2.2.1, (hb.cell (p := ⟨q, 3, none⟩) h.lt).trans h.2.2.2⟩
theorem FourAt.stored {w : World} {q : Nat} (h : FourAt w q) {a : Addr} (ha : a.block ≠ q) (u : Value) : FourAt (w.setCell a u) q := by
  have hn : ∀ j : Nat, a ≠ (⟨q, j, none⟩ : Addr) := fun j e => ha (by rw [e])
  exact ⟨(World.cell?_setCell_other w a _ u (hn 0)).trans h.1, (World.cell?_setCell_other w a _ u (hn 1)).trans h.2.1, (World.cell?_setCell_other w a _ u (hn 2)).trans h.2.2.1, (World.cell?_setCell_other w a _ u (hn 3)).trans h.2.2.2⟩
theorem four_src {w : World} {o : Nat} (h : FourAt w o) : ∀ j u, oldC.toList[j]? = some u → w.cell? ((⟨o, 0, none⟩ : Addr).add j) = some u := by
  intro j u hj
  rw [Addr.add_lit, Nat.zero_add]
  match j, hj with
  | 0, hj => simp [oldC] at hj; subst hj; exact h.1
  | 1, hj => simp [oldC] at hj; subst hj; exact h.2.1
  | 2, hj => simp [oldC] at hj; subst hj; exact h.2.2.1
  | 3, hj => simp [oldC] at hj; subst hj; exact h.2.2.2
set_option maxHeartbeats 1600000 in
set_option maxRecDepth 100000 in
theorem new_Replacer (o : Nat) (w : World) (ho : FourAt w o) :
    Calls Tryz.prog 46 #[.slice (some ⟨o, 0, none⟩) 4 4] w fun e w' => ∃ b q c, e = .returned (.pointer (some ⟨b, 0, none⟩)) ∧ RplAt w' b 0 0 .nilIface (.slice (some ⟨q, 0, none⟩) 4 c) ∧ FourAt w' q ∧ q ≠ b ∧ w.heap.size ≤ b ∧ Below w.heap.size w w' := by
  obtain ⟨i0, hi, hz0, hz1, hz2⟩ := info_parts info_strS
  have hsrc := four_src ho
  go_enter Tryz.func46, Tryz.ntmps46
  go_wp2_with (at_builtin; go_loud (refine wpList_append_own _ rfl _ _ 91 rfl w.heap.size 9 i0 _ 1 16 Tryz.underlying91 hi hz0 hz1 hz2 rfl (by decide) (.slice none 0 0) 0 [] rfl (World.ownsRow_nil _ _ _ _) ⟨o, 0, none⟩ 4 4 oldC.toList rfl rfl hsrc (by simp [oldC, Value.oneCell']) (by unfold maxLen; omega) (by omega) (Nat.le_refl _) ?_))
  intro v' w1 hown hg1 _
  have hb1 : Below w.heap.size w w1 := (Below.refl _ _).grown hg1 (Nat.le_refl _) (fun j hj => by cases hj)
  obtain ⟨q, c, rfl, hq1, hq2⟩ := ownsRow_form hown (by decide)
  have hf1 : FourAt w1 q := ⟨(World.ownsRow.cellAt hown 0 (by decide)).trans rfl, (World.ownsRow.cellAt hown 1 (by decide)).trans rfl, (World.ownsRow.cellAt hown 2 (by decide)).trans rfl, (World.ownsRow.cellAt hown 3 (by decide)).trans rfl⟩
  have hn : RplAt (w1.alloc (.cells #[.int .u32 0, .int .i32 0, .int .u32 0, .nilIface, .slice (some ⟨q, 0, none⟩) 4 c] 107)) w1.heap.size 0 0 .nilIface (.slice (some ⟨q, 0, none⟩) 4 c) := heap_alloc_new w1 _
  have hst : Below w1.heap.size w1 (w1.alloc (.cells #[.int .u32 0, .int .i32 0, .int .u32 0, .nilIface, .slice (some ⟨q, 0, none⟩) 4 c] 107)) := (Below.refl _ _).alloc (Nat.le_refl _) _
  have HN := Lib.hid hn
  clear hsrc hg1 hown
  go_wp2_with fail
  go_ret
  exact ⟨_, q, c, rfl, HN.out, hf1.below hst, by omega, hb1.size, Bt hb1 hst⟩
set_option maxHeartbeats 1600000 in
set_option maxRecDepth 100000 in
theorem rep_buildOnce (B b q c : Nat) (y : Int) (w : World) (hR : RplAt w b 0 y .nilIface (.slice (some ⟨q, 0, none⟩) 4 c)) (hf : FourAt w q) (hB : B ≤ b) :
    Calls Tryz.prog 63 #[.pointer (some ⟨b, 0, none⟩)] w fun e w' => e = .returned (.tuple #[]) ∧ ∃ g, RplAt w' b 0 y (.iface 157 (.pointer (some ⟨g, 0, none⟩))) (.slice none 0 0) ∧ RepAt w' w.heap.size g ∧ Below B w w' ∧ w.heap.size ≤ w'.heap.size := by
  obtain ⟨_, _, _, c4⟩ := hR.cells
  have cB := Lib.hid (rep_build b q c w c4 hR.lt hf.lt hf.1 hf.2.1 hf.2.2.1 hf.2.2.2)
  have HR := Lib.hid hR
  clear c4 hR hf
  go_enter Tryz.func63, Tryz.ntmps63
  go_wp2_with fail
  refine cB.out.mono ?_
  rintro e w2 ⟨g, rfl, hrep, hb2⟩
  have hR2 := HR.out.below hb2
  have hlt := HR.out.lt
  have hs2 := hb2.size
  have hbB : Below B w w2 := hb2.mono (by omega)
  obtain ⟨_, _, c3, c4⟩ := hR2.cells
  have z3 := hR2.frozen 3
  have hR3 := hR2.set3 (.iface 157 (.pointer (some ⟨g, 0, none⟩)))
  have hrep3 := hrep.stored (a := ⟨b, 3, none⟩) hlt (.iface 157 (.pointer (some ⟨g, 0, none⟩)))
  have hb3 := hbB.setCell (show B ≤ (⟨b, 3, none⟩ : Addr).block from hB) (.iface 157 (.pointer (some ⟨g, 0, none⟩)))
  obtain ⟨_, _, _, d4⟩ := hR3.cells
  have z4 := hR3.frozen 4
  have hR4 := hR3.set4 (.slice none 0 0)
  have hrep4 := hrep3.stored (a := ⟨b, 4, none⟩) hlt (.slice none 0 0)
  have hb4 := hb3.setCell (show B ≤ (⟨b, 4, none⟩ : Addr).block from hB) (.slice none 0 0)
  have HR4 := Lib.hid hR4
  have HP4 := Lib.hid hrep4
  have HB4 := Lib.hid hb4
  clear hR2 hR3 hrep hrep3 hb2 hb3 hbB hR4 hrep4 hb4 HR
  go_wp2_with fail
  go_end0
  exact ⟨rfl, g, HR4.out, HP4.out, HB4.out, by simpa using hs2⟩
end Go.Proofs.YtndppcklpcfikaaGreatDoor
