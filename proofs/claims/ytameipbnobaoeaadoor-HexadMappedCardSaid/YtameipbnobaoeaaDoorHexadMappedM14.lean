/- hexad.group, hexad.row. -/
import Derived.Test.YtameipbnobaoeaaDoorHexadMappedM10
import Derived.Test.YtameipbnobaoeaaDoorHexadMappedM12
import Derived.Test.YtameipbnobaoeaaDoorHexadMappedM13
import Derived.Deep.RegionLaw

namespace Go.Proofs.YtameipbnobaoeaaDoor
open Go.RowKit

theorem numRes_le (s : ByteArray) (base m : Nat) : (numRes s base m).1 ≤ m := by
  unfold numRes
  split
  · exact Nat.zero_le _
  · split
    · exact Nat.zero_le _
    · split
      · exact Nat.zero_le _
      · next h => simp only; omega
def GroupPost (s : ByteArray) (w : World) (e : Ending) (w' : World) : Prop := Below w.heap.size w w' ∧ ∃ (x : Nat) (ok : Bool), e = .returned (.tuple #[.int .u16 (x : Int), .bool ok]) ∧ ((ok = true ∧ groupH s = some x ∧ x < 65536) ∨ (ok = false ∧ groupH s = none))
set_option maxHeartbeats 1600000 in
set_option maxRecDepth 100000 in
theorem hexad_group (s : ByteArray) (w : World) (hs : s.size ≤ 16777216) : Calls Tryd.prog 25 #[.string s] w (GroupPost s w) := by
  have hle := numRes_le s 16 65535
  have hgd : groupH s = if (numRes s 16 65535).2.1 = 0 ∧ s.size ≤ 4 then some (numRes s 16 65535).1 else none := rfl
  have cH' : ∀ W, Calls Tryd.prog 36 #[.string s, .int .u64 65535] W (NumPost s 16 65535 W) := fun W => fold_Hex s 65535 W (by omega) (by omega)
  have cH := Lib.hid cH'
  have HG := Lib.hid hgd
  unfold NumPost at cH
  clear cH' hgd
  generalize numRes s 16 65535 = r at *
  obtain ⟨n, k, i⟩ := r
  simp only at hle cH HG
  go_enter Tryd.func25, Tryd.ntmps25
  go_wp2_with fail
  refine (cH.out _).mono ?_
  rintro e w2 ⟨v, rfl, hv, hb2⟩
  have hnI : (n : Int) ≤ 65535 := by omega
  have hwr : IntKind.u16.wrap (n : Int) = (n : Int) := IntWalk.u16_in _ (by omega)
  rcases hv with ⟨rfl, rfl⟩ | ⟨hk, u, hv⟩
  · by_cases h4 : s.size ≤ 4
    · have h4I : (s.size : Int) ≤ 4 := by omega
      have hx : groupH s = some n := by rw [HG.out, if_pos ⟨rfl, h4⟩]
      have HX := Lib.hid hx
      clear hx h4
      go_wp2_with fail
      go_ret2
      exact ⟨hb2, n, _, rfl, .inl ⟨by first | rfl | exact decide_eq_true (by omega), HX.out, by omega⟩⟩
    · have h4I : ¬ (s.size : Int) ≤ 4 := by omega
      have hx : groupH s = none := by rw [HG.out, if_neg (fun h => h4 h.2)]
      have HX := Lib.hid hx
      clear hx h4
      go_wp2_with fail
      go_ret2
      exact ⟨hb2, n, _, rfl, .inr ⟨by first | rfl | exact decide_eq_false (by omega), HX.out⟩⟩
  · obtain ⟨p, rfl⟩ := hv.ne_nil
    have hx : groupH s = none := by rw [HG.out, if_neg (fun h => hk h.1)]
    have HX := Lib.hid hx
    clear hx hv
    go_wp2_with fail
    go_ret2
    exact ⟨hb2, n, false, rfl, .inr ⟨rfl, HX.out⟩⟩
theorem info_u16 : (Tryd.prog.info? 25).map (fun i => (i.zero, i.size, i.bytes)) = some (some (.int .u16 0), 1, 2) := by kernel_rfl
/-- A row of sixteen-bit numbers of the call's own. -/
def OwnU (w : World) (base : Nat) (v : Value) (l : List Nat) : Prop := w.ownsRow base 25 1 v l.length (l.map u16V)
theorem OwnU.nil (w : World) (base : Nat) : OwnU w base (.slice none 0 0) [] := World.ownsRow_nil _ _ _ _
theorem OwnU.below {w w' : World} {base : Nat} {v : Value} {l : List Nat} (h : OwnU w base v l) (hb : Below w.heap.size w w') : OwnU w' base v l := ownsRow_below h hb
theorem OwnU.under {w0 w w' : World} {base : Nat} {v : Value} {l : List Nat} (h : OwnU w base v l) (hb : Below w0.heap.size w0 w) (hB : w0.heap.size ≤ base) (hg : w.grownBy w' v.ownBlock) : Below w0.heap.size w0 w' :=
  hb.grown hg hb.size (fun j hj => Nat.le_trans hB (World.ownsRow.lt h j hj).1)
theorem OwnU.sl {w : World} {base : Nat} {v : Value} {l : List Nat} (h : OwnU w base v l) : ∃ a c, v = .slice a l.length c ∧ l.length ≤ c ∧ c ≤ maxLen ∧ USl w a l := by
  unfold OwnU at h
  rcases h.2 with ⟨e0, e1⟩ | ⟨g, cap, cur, e0, hg, hh, h1, h2, _⟩
  · refine ⟨none, 0, by rw [e0, e1], by omega, by unfold maxLen; omega, fun i p hp => ?_⟩
    have := (List.getElem?_eq_some_iff.1 hp).1
    omega
  · refine ⟨_, cap, e0, h1, h2, fun i p hp => ?_⟩
    subst e0
    have hi := (List.getElem?_eq_some_iff.1 hp).1
    have := World.ownsRow.cellAt h i (by omega)
    refine ⟨g, 0, rfl, lt_of_block hh, ?_⟩
    rw [Nat.zero_add, this, List.getElem?_map, hp]
    rfl
theorem wpList_app_u16 {w : World} {ops : Array Oper} {rest : List Oper} {o : Oper} {a : Act} {Q : Exit → Act → World → Prop} (hgd : o.guard = none) (s x : Operand) (ho : o.op = .call { callee := .builtin .append, args := #[s, x], argTypes := #[45, 45] })
    (base : Nat) (v : Value) (l : List Nat) (hs : a.eval s = v) (hown : OwnU w base v l) (g m c : Nat) (news : List Nat) (hm : news.length = m) (hx : a.eval x = .slice (some ⟨g, 0, none⟩) m c) (hb : w.heap[g]? = some (.cells (news.map u16V).toArray 25 (0, 0)))
    (hl : l.length + m ≤ 1073741824) (hbase : base ≤ w.heap.size)
    (h : ∀ v' w', OwnU w' base v' (l ++ news) → w.grownBy w' v.ownBlock → wpList Tryd.prog ops Q rest (a.put o.dst v') w') : wpList Tryd.prog ops Q (o :: rest) a w := by
  obtain ⟨i, hi, hz, hsize, hby⟩ := info_parts info_u16
  refine wpList_append_own _ hgd s x 45 ho base 25 i _ 1 2 Tryd.underlying45 hi hz hsize hby rfl (by decide) v _ _ hs hown _ m c (news.map u16V) hx (by rw [List.length_map, hm]; omega) ?_ ?_ (by unfold maxLen; omega) (by omega) hbase ?_
  · intro j u hj
    rw [Addr.add_lit, Nat.zero_add, cell_of_row w g j _ _ _ hb, ← hj]
    simp
  · intro u hu
    obtain ⟨n, _, rfl⟩ := List.mem_map.1 hu
    rfl
  · intro v' w' h1 h2 _
    refine h v' w' ?_ h2
    unfold OwnU
    rw [List.length_append, List.map_append, hm]
    exact h1
def RowPost (last : Bool) (s : ByteArray) (w : World) (e : Ending) (w' : World) : Prop := Below w.heap.size w w' ∧ ((∃ l a c, rowH last s = some l ∧ e = .returned (.tuple #[.slice a l.length c, .bool true]) ∧ l.length ≤ c ∧ c ≤ maxLen ∧ USl w' a l ∧ l.length ≤ 1000000) ∨ (rowH last s = none ∧ e = .returned (.tuple #[.slice none 0 0, .bool false])))
theorem rowL_one {last : Bool} {p : ByteArray} {ps : List ByteArray} {n : Nat} (h : groupH p = some n) : rowL last (p :: ps) = (rowL last ps).map (n :: ·) := by rw [rowL, h]
theorem rowL_quad {last : Bool} {p : ByteArray} {ps : List ByteArray} (h : groupH p = none) (h2 : (strictB p && (last && ps.isEmpty)) = true) : rowL last (p :: ps) = some [(parseQ p).1 / 65536 % 65536, (parseQ p).1 % 65536] := by rw [rowL, h]; exact if_pos h2
theorem rowL_bad {last : Bool} {p : ByteArray} {ps : List ByteArray} (h : groupH p = none) (h2 : (strictB p && (last && ps.isEmpty)) = false) : rowL last (p :: ps) = none := by rw [rowL, h]; exact if_neg (by rw [h2]; decide)
theorem v4N_num (n : Nat) : (((n / 16777216 % 256 * 256 + n / 65536 % 256) * 256 + n / 256 % 256) * 256 + n % 256) = n % 4294967296 := by omega
theorem strict_call (p : ByteArray) (hs : p.size ≤ 16777216) : ∃ A B C D M : Nat, A < 256 ∧ B < 256 ∧ C < 256 ∧ D < 256 ∧ M < 4294967296 ∧ M / 65536 = (parseQ p).1 / 65536 % 65536 ∧ M % 65536 = (parseQ p).1 % 65536 ∧
    (∀ W, Handle W → Calls Tryd.prog 26 #[.string p] W fun e w' => Below W.heap.size W w' ∧ ((strictB p = true ∧ e = .returned (.tuple #[.agg #[.int .u8 (A : Int), .int .u8 (B : Int), .int .u8 (C : Int), .int .u8 (D : Int)], .nilIface])) ∨ (strictB p = false ∧ ∃ v, e = .returned (.tuple #[.agg #[.int .u8 0, .int .u8 0, .int .u8 0, .int .u8 0], v]) ∧ IsFault w' v 11 0))) ∧
    ∀ W, Calls Tryd.prog 27 #[.agg #[.int .u8 (A : Int), .int .u8 (B : Int), .int .u8 (C : Int), .int .u8 (D : Int)]] W fun e w' => e = .returned (.int .u32 (M : Int)) ∧ Below W.heap.size W w' := by
  refine ⟨(parseQ p).1 / 16777216 % 256, (parseQ p).1 / 65536 % 256, (parseQ p).1 / 256 % 256, (parseQ p).1 % 256, (((parseQ p).1 / 16777216 % 256 * 256 + (parseQ p).1 / 65536 % 256) * 256 + (parseQ p).1 / 256 % 256) * 256 + (parseQ p).1 % 256, by omega, by omega, by omega, by omega, by omega, by omega, by omega, fun W hg => ?_, fun W => ?_⟩
  · exact quad_Strict p hs W hg
  · exact quad_Number _ _ _ _ (by omega) (by omega) (by omega) (by omega) W
theorem map_app_one {x : Option (List Nat)} {acc : List Nat} {n : Nat} : (x.map (n :: ·)).map (acc ++ ·) = x.map ((acc ++ [n]) ++ ·) := by
  cases x with
  | none => rfl
  | some l => simp
set_option maxHeartbeats 1600000 in
set_option maxRecDepth 100000 in
theorem hexad_row (last : Bool) (s : ByteArray) (w : World) (hs : s.size ≤ 100000) (hg : Handle w) : Calls Tryd.prog 16 #[.string s, .bool last] w (RowPost last s w) := by
  by_cases h0 : s.size = 0
  · have hr : rowH last s = some [] := if_pos h0
    have e0 : (s.toList == []) = true := by
      have := isEmpty_yes h0
      rw [List.isEmpty_iff] at this
      rw [this]; rfl
    have HR := Lib.hid hr
    clear hr h0
    go_enter Tryd.func16, Tryd.ntmps16
    go_wp2_with fail
    go_ret2
    exact ⟨Below.refl _ _, .inl ⟨[], none, 0, HR.out, rfl, Nat.le_refl _, Nat.zero_le _, fun j x h => by simp at h, Nat.zero_le _⟩⟩
  · have hr : rowH last s = rowL last (partsB 58 s) := if_neg h0
    have e0 : (s.toList == []) = false := by
      have := isEmpty_no (Nat.pos_of_ne_zero h0)
      cases hl : s.toList with
      | nil => rw [hl] at this; cases this
      | cons a l => rfl
    have cS := Lib.hid (fun W => strings_Split1 s 58 W (by omega))
    have hpl := partsB_len 58 s
    have hpz := fun p hp => partsB_sizes 58 s p hp
    have HR := Lib.hid hr
    clear hr h0
    generalize partsB 58 s = ps at *
    have hpl2 : ps.length ≤ 100001 := by omega
    have HPZ := Lib.hid hpz
    clear hpl hpz
    go_enter Tryd.func16, Tryd.ntmps16
    go_wp2_with fail
    refine (cS.out _).mono ?_
    rintro e w2 ⟨rfl, rfl⟩
    have hcells := parts_cells w ps
    have hst : Below w.heap.size w (w.alloc (.cells (ps.map Value.string).toArray 9)) := (Below.refl _ _).alloc (Nat.le_refl _) _
    have hlt1 : w.heap.size < (w.alloc (.cells (ps.map Value.string).toArray 9)).heap.size := by simp
    have HC := Lib.hid hcells
    clear hcells
    generalize w.alloc (.cells (ps.map Value.string).toArray 9) = w1 at *
    go_wp2_with fail
    go_loopw [4, 20] (fun v x wr => ∃ (i : Nat) (acc : List Nat), i ≤ ps.length ∧ x = .int .i64 i ∧ OwnU wr w1.heap.size v acc ∧ Below w.heap.size w wr ∧ Below w1.heap.size w1 wr ∧ acc.length ≤ 2 * i ∧ rowH last s = (rowL last (ps.drop i)).map (acc ++ ·)) (fun _ x _ => ps.length - (intOf x).toNat)
    case atStart => exact ⟨0, [], Nat.zero_le _, rfl, OwnU.nil _ _, hst, Below.refl _ _, Nat.le_refl _, by rw [HR.out, List.drop_zero]; cases rowL last ps <;> rfl⟩
    case round =>
      obtain ⟨i, acc, hil, rfl, hown, hbr, hbr1, hacc, hrel⟩ := hrel
      by_cases hlt : i < ps.length
      · obtain ⟨p, hx⟩ : ∃ p, ps[i]? = some p := ⟨_, List.getElem?_eq_getElem hlt⟩
        have d0 := (hbr1.cell (p := ⟨w.heap.size, i, none⟩) hlt1).trans (HC.out i p hx)
        have hpz := HPZ.out p (List.mem_of_getElem? hx)
        have hdrop : ps.drop i = p :: ps.drop (i + 1) := drop_cons hx
        have hemp : (ps.drop (i + 1)).isEmpty = decide (i + 1 = ps.length) := by
          rw [Bool.eq_iff_iff, List.isEmpty_iff, decide_eq_true_eq, List.drop_eq_nil_iff]; omega
        rw [hdrop] at hrel
        have hone := fun n h => hrel.trans ((congrArg (Option.map (acc ++ ·)) (rowL_one (last := last) (p := p) (ps := ps.drop (i + 1)) (n := n) h)).trans map_app_one)
        have hquad := fun h h2 => hrel.trans (congrArg (Option.map (acc ++ ·)) (rowL_quad (last := last) (p := p) (ps := ps.drop (i + 1)) h h2))
        have hbad := fun h h2 => hrel.trans (congrArg (Option.map (acc ++ ·)) (rowL_bad (last := last) (p := p) (ps := ps.drop (i + 1)) h h2))
        rw [hemp] at hquad hbad
        have hnil : i + 1 = ps.length → rowL last (ps.drop (i + 1)) = some [] := fun h => by rw [List.drop_eq_nil_of_le (by omega)]; rfl
        have hiI : (i : Int) < (ps.length : Int) := by omega
        have cG := Lib.hid (fun W => hexad_group p W (by omega))
        have HONE := Lib.hid hone
        have HQUAD := Lib.hid hquad
        have HBAD := Lib.hid hbad
        have HNIL := Lib.hid hnil
        clear hx hdrop hemp hrel hone hquad hbad hnil
        go_wp2_with fail
        refine (cG.out _).mono ?_
        rintro e w3 ⟨hb3, x, ok, rfl, hgr⟩
        have hbr3 := Bt hbr hb3
        have hbr13 := hbr1.trans (hb3.mono hbr1.size)
        have hown3 := hown.below hb3
        clear hbr hbr1 hown hb3 cG d0
        rcases hgr with ⟨rfl, hgr, hx6⟩ | ⟨rfl, hgr⟩
        · have HX := Lib.hid (HONE.out x hgr)
          clear hgr HONE HQUAD HBAD HNIL
          have hbC : Below w3.heap.size w3 (w3.alloc (.cells #[.int .u16 (x : Int)] 25)) := (Below.refl _ _).alloc (Nat.le_refl _) _
          have hownC := hown3.below hbC
          have hblk : (w3.alloc (.cells #[.int .u16 (x : Int)] 25)).heap[w3.heap.size]? = some (.cells (([x] : List Nat).map u16V).toArray 25 (0, 0)) := heap_alloc_new w3 _
          have hszC : w1.heap.size ≤ (w3.alloc (.cells #[.int .u16 (x : Int)] 25)).heap.size := by have := hbr13.size; simp; omega
          have hbrC := hbr13.trans (hbC.mono hbr13.size)
          have hbrC0 := Bt hbr3 hbC
          clear hbr3 hbr13 hown3 hbC
          go_wp2_with (at_builtin; go_loud (refine wpList_app_u16 rfl _ _ rfl w1.heap.size _ _ rfl hownC w3.heap.size 1 1 [x] rfl rfl hblk (by omega) hszC ?_))
          intro v' w' hown' hg'
          have hb1' := hownC.under hbrC (Nat.le_refl _) hg'
          have hb0' := hbrC0.grown hg' hbrC0.size (fun j hj => Nat.le_trans hst.size (World.ownsRow.lt hownC j hj).1)
          clear hg' hownC hblk hbrC hbrC0
          go_wp2_with fail
          go_roundw
          case rel => exact ⟨i + 1, acc ++ [x], by omega, by go_num, hown', hb0', hb1', by simp; omega, HX.out⟩
          case measure => simp [intOf]; omega
        · obtain ⟨A, B, C, D, M, hA, hB, hC, hD, hM, hM1, hM2, cQ', cN'⟩ := strict_call p (by omega)
          have cQ := Lib.hid (cQ' w3 (hg.below hbr3))
          have cN := Lib.hid cN'
          have HQ := Lib.hid (fun h2 => HQUAD.out hgr h2)
          have HBD := Lib.hid (fun h2 => HBAD.out hgr h2)
          rw [← hM1, ← hM2] at HQ
          clear hgr HONE HQUAD HBAD cQ' cN' hM1 hM2 hA hB hC hD
          generalize strictB p = sb at *
          go_wp2_with fail
          refine cQ.out.mono ?_
          rintro e w4 ⟨hb4, hq⟩
          have hbr4 := Bt hbr3 hb4
          have hbr14 := hbr13.trans (hb4.mono hbr13.size)
          have hown4 := hown3.below hb4
          clear hbr3 hbr13 hb4 hown3 cQ
          rcases hq with ⟨rfl, rfl⟩ | ⟨rfl, v, rfl, hv⟩
          · have hbV : Below w4.heap.size w4 (w4.alloc (.cells #[.int .u8 (A : Int), .int .u8 (B : Int), .int .u8 (C : Int), .int .u8 (D : Int)] 37)) := (Below.refl _ _).alloc (Nat.le_refl _) _
            have hbrV := Bt hbr4 hbV
            have hbr1V := hbr14.trans (hbV.mono hbr14.size)
            have hownV := hown4.below hbV
            cases last with
            | false =>
              have HX := Lib.hid (HBD.out (by simp))
              clear HBD HQ
              go_wp2_with fail
              go_ret2
              exact ⟨hbrV, .inr ⟨HX.out, rfl⟩⟩
            | true =>
              by_cases hend : i + 1 = ps.length
              · have hX := HQ.out (by rw [decide_eq_true hend]; rfl)
                have HX := Lib.hid hX
                have HN := Lib.hid (HNIL.out hend)
                have hlast : ¬ (i : Int) < (ps.length : Int) - 1 := by omega
                clear HBD HQ hX HNIL
                go_wp2_with fail
                refine (cN.out _).mono ?_
                rintro e w5 ⟨rfl, hb5⟩
                have HM := Lib.hid hM
                clear hM
                have zw1 : IntKind.u16.wrap ((M : Int) / 65536) = (M : Int) / 65536 := IntWalk.u16_in _ (by have := HM.out; omega)
                have zw2 : IntKind.u16.wrap (M : Int) = (M : Int) % 65536 := by
                  simp only [IntKind.wrap, IntKind.signed, IntKind.bits]
                  simp
                have hbr5 := Bt hbrV hb5
                have hbr15 := hbr1V.trans (hb5.mono hbr1V.size)
                have hown5 := hownV.below hb5
                have hbC : Below w5.heap.size w5 (w5.alloc (.cells #[.int .u16 ((M : Int) / 65536), .int .u16 ((M : Int) % 65536)] 25)) := (Below.refl _ _).alloc (Nat.le_refl _) _
                have hownC := hown5.below hbC
                have hblk : (w5.alloc (.cells #[.int .u16 ((M : Int) / 65536), .int .u16 ((M : Int) % 65536)] 25)).heap[w5.heap.size]? = some (.cells (([M / 65536, M % 65536] : List Nat).map u16V).toArray 25 (0, 0)) := by
                  rw [heap_alloc_new w5 _]
                  simp [u16V]
                have hszC : w1.heap.size ≤ (w5.alloc (.cells #[.int .u16 ((M : Int) / 65536), .int .u16 ((M : Int) % 65536)] 25)).heap.size := by have := hbr15.size; simp; omega
                have hbrC := hbr15.trans (hbC.mono hbr15.size)
                have hbrC0 := Bt hbr5 hbC
                clear hb5 hbrV hbr1V hownV hbr4 hbr14 hown4 hbV hbr5 hbr15 hown5 hbC
                go_wp2_with (at_builtin; go_loud (refine wpList_app_u16 rfl _ _ rfl w1.heap.size _ _ rfl hownC w5.heap.size 2 2 [M / 65536, M % 65536] rfl rfl hblk (by omega) hszC ?_))
                intro v' w' hown' hg'
                have hb1' := hownC.under hbrC (Nat.le_refl _) hg'
                have hb0' := hbrC0.grown hg' hbrC0.size (fun j hj => Nat.le_trans hst.size (World.ownsRow.lt hownC j hj).1)
                have hX2 : rowH true s = (rowL true (ps.drop (i + 1))).map ((acc ++ [M / 65536, M % 65536]) ++ ·) := by
                  rw [HX.out, HN.out]
                  simp
                have HX2 := Lib.hid hX2
                clear hg' hownC hblk hbrC hbrC0 hX2 zw1 zw2
                go_wp2_with fail
                go_roundw
                case rel => exact ⟨i + 1, acc ++ [M / 65536, M % 65536], by omega, by go_num, hown', hb0', hb1', by simp; omega, HX2.out⟩
                case measure => simp [intOf]; omega
              · have HX := Lib.hid (HBD.out (by rw [decide_eq_false hend]; simp))
                have hlast : (i : Int) < (ps.length : Int) - 1 := by omega
                clear HBD HQ
                go_wp2_with fail
                go_ret2
                exact ⟨hbrV, .inr ⟨HX.out, rfl⟩⟩
          · have hbV : Below w4.heap.size w4 (w4.alloc (.cells #[.int .u8 0, .int .u8 0, .int .u8 0, .int .u8 0] 37)) := (Below.refl _ _).alloc (Nat.le_refl _) _
            have hbrV := Bt hbr4 hbV
            obtain ⟨q, rfl⟩ := hv.ne_nil
            have HX := Lib.hid (HBD.out (by simp))
            clear HBD HQ hv
            go_wp2_with fail
            go_ret2
            exact ⟨hbrV, .inr ⟨HX.out, rfl⟩⟩
      · obtain rfl : i = ps.length := by omega
        rw [List.drop_eq_nil_of_le (Nat.le_refl _)] at hrel
        have hfin : rowH last s = some acc := by rw [hrel]; simp [rowL]
        obtain ⟨a, c, rfl, h1, h2, hsl⟩ := hown.sl
        have HF := Lib.hid hfin
        clear hrel hown hfin
        go_wp2_with fail
        go_ret2
        exact ⟨hbr, .inl ⟨acc, a, c, HF.out, rfl, h1, h2, hsl, by omega⟩⟩
end Go.Proofs.YtameipbnobaoeaaDoor

/- hexad.Text. -/
namespace Go.Proofs.YtameipbnobaoeaaDoor
open Go.RowKit

theorem arrG8 : Tryd.prog.arrayLen 26 = 8 := by kernel_rfl
theorem elemG8 : Tryd.prog.elem 26 = 25 := by kernel_rfl
theorem undG8 : Tryd.prog.underlying 26 = some (.array (Tryd.prog.arrayLen 26) (Tryd.prog.elem 26)) := by kernel_rfl
theorem slAll8 (g : Nat) (w : World) : (Instr.sliceAt 26 (.pointer (some ⟨g, 0, none⟩)) none none none).run Tryd.prog w = .ok (.slice (some ⟨g, 0, none⟩) 8 8) w := by
  have hs : (sizeOf 25).run Tryd.prog w = .ok 1 w := by kernel_rfl
  rw [run_sliceAt_array_all w _ _ undG8, elemG8, hs, arrG8]
  simp only [Result.andThen, slicedAt]
  rw [if_neg (by omega), Addr.add_lit]
theorem slHead8 (g k : Nat) (hk : k ≤ 8) (w : World) : (Instr.sliceAt 26 (.pointer (some ⟨g, 0, none⟩)) none (some (.int .i64 (k : Int))) (some (.int .i64 (k : Int)))).run Tryd.prog w = .ok (.slice (some ⟨g, 0, none⟩) k k) w := by
  have hs : (sizeOf 25).run Tryd.prog w = .ok 1 w := by kernel_rfl
  rw [run_sliceAt_array_hm w _ _ undG8 _ _ _ _ (by omega) (by omega) (by rw [arrG8]; omega), elemG8, hs]
  simp only [Result.andThen, slicedAt]
  have e : ((k : Int)).toNat = k := by omega
  rw [e, Addr.add_lit]
  simp
theorem slTail8 (g k : Nat) (hk : k ≤ 8) (w : World) : (Instr.sliceAt 26 (.pointer (some ⟨g, 0, none⟩)) (some (.int .i64 (k : Int))) none none).run Tryd.prog w = .ok (.slice (some ⟨g, if 8 = k then 0 else k, none⟩) (8 - k) (8 - k)) w := by
  have hs : (sizeOf 25).run Tryd.prog w = .ok 1 w := by kernel_rfl
  rw [run_sliceAt_array_l w _ _ undG8 _ _ (by omega) (by rw [arrG8]; omega), elemG8, hs, arrG8]
  simp only [Result.andThen, slicedAt]
  have e : ((k : Int)).toNat = k := by omega
  rw [e, Addr.add_lit]
  by_cases h : 8 = k
  · rw [if_pos h, if_pos h]
  · rw [if_neg h, if_neg h, Nat.zero_add, Nat.mul_one]
set_option maxHeartbeats 1000000 in
set_option maxRecDepth 100000 in
theorem hexad_Text (b : List Nat) (w : World) (hl : b.length = 16) (hb : ∀ x ∈ b, x < 256) :
    Calls Tryd.prog 6 #[.agg (b.map u8V).toArray] w fun e w' => e = .returned (.string (ofL (textH (grps b)))) ∧ Below w.heap.size w w' := by
  have hglt := grps_lt hb
  have hgl := grps_len b
  have cG' := fun W => hexad_Groups b W hl hb
  generalize grps b = gg at *
  obtain ⟨b0, b1, b2, b3, b4, b5, b6, b7, b8, b9, b10, b11, b12, b13, b14, b15, rfl⟩ := sixteen hl
  have hle := long_le hgl
  have cL' := fun W => hexad_longest gg W hgl
  have htx : textH gg = if (longH gg).2 < 2 then joinA 58 (gg.map hexG) else joinA 58 ((gg.take (longH gg).1).map hexG) ++ 58 :: 58 :: joinA 58 ((gg.drop ((longH gg).1 + (longH gg).2)).map hexG) := rfl
  generalize (longH gg).1 = at_ at *
  generalize (longH gg).2 = sz at *
  have HTX := Lib.hid htx
  have HLT := Lib.hid hglt
  clear htx hglt hb hl
  generalize textH gg = TX at *
  have hgg := hgl
  obtain ⟨x0, x1, x2, x3, x4, x5, x6, x7, hge⟩ := eightM hgl
  rw [hge] at cG' cL'
  have cG : Hid (∀ W, Calls Tryd.prog 9 #[.agg #[.int .u8 (b0 : Int), .int .u8 (b1 : Int), .int .u8 (b2 : Int), .int .u8 (b3 : Int), .int .u8 (b4 : Int), .int .u8 (b5 : Int), .int .u8 (b6 : Int), .int .u8 (b7 : Int), .int .u8 (b8 : Int), .int .u8 (b9 : Int), .int .u8 (b10 : Int), .int .u8 (b11 : Int), .int .u8 (b12 : Int), .int .u8 (b13 : Int), .int .u8 (b14 : Int), .int .u8 (b15 : Int)]] W fun e w' => e = .returned (.agg #[.int .u16 (x0 : Int), .int .u16 (x1 : Int), .int .u16 (x2 : Int), .int .u16 (x3 : Int), .int .u16 (x4 : Int), .int .u16 (x5 : Int), .int .u16 (x6 : Int), .int .u16 (x7 : Int)]) ∧ Below W.heap.size W w') := Lib.hid cG'
  have cL : Hid (∀ W, Calls Tryd.prog 13 #[.agg #[.int .u16 (x0 : Int), .int .u16 (x1 : Int), .int .u16 (x2 : Int), .int .u16 (x3 : Int), .int .u16 (x4 : Int), .int .u16 (x5 : Int), .int .u16 (x6 : Int), .int .u16 (x7 : Int)]] W fun e w' => e = .returned (.tuple #[.int .i64 (at_ : Nat), .int .i64 (sz : Nat)]) ∧ Below W.heap.size W w') := Lib.hid cL'
  have hst1 : Below w.heap.size w (w.alloc (.cells #[.int .u8 (b0 : Int), .int .u8 (b1 : Int), .int .u8 (b2 : Int), .int .u8 (b3 : Int), .int .u8 (b4 : Int), .int .u8 (b5 : Int), .int .u8 (b6 : Int), .int .u8 (b7 : Int), .int .u8 (b8 : Int), .int .u8 (b9 : Int), .int .u8 (b10 : Int), .int .u8 (b11 : Int), .int .u8 (b12 : Int), .int .u8 (b13 : Int), .int .u8 (b14 : Int), .int .u8 (b15 : Int)] 23)) := (Below.refl _ _).alloc (Nat.le_refl _) _
  have HGE := Lib.hid hge
  clear cG' cL' hge
  show Calls Tryd.prog 6 #[.agg #[.int .u8 (b0 : Int), .int .u8 (b1 : Int), .int .u8 (b2 : Int), .int .u8 (b3 : Int), .int .u8 (b4 : Int), .int .u8 (b5 : Int), .int .u8 (b6 : Int), .int .u8 (b7 : Int), .int .u8 (b8 : Int), .int .u8 (b9 : Int), .int .u8 (b10 : Int), .int .u8 (b11 : Int), .int .u8 (b12 : Int), .int .u8 (b13 : Int), .int .u8 (b14 : Int), .int .u8 (b15 : Int)]] w _
  go_enter Tryd.func6, Tryd.ntmps6
  go_wp2_with fail
  refine (cG.out _).mono ?_
  rintro e w2 ⟨rfl, hb2⟩
  have hb12 := Bt hst1 hb2
  have hst3 : Below w2.heap.size w2 (w2.alloc (.cells #[.int .u16 (x0 : Int), .int .u16 (x1 : Int), .int .u16 (x2 : Int), .int .u16 (x3 : Int), .int .u16 (x4 : Int), .int .u16 (x5 : Int), .int .u16 (x6 : Int), .int .u16 (x7 : Int)] 26)) := (Below.refl _ _).alloc (Nat.le_refl _) _
  have hR : ArrAt (w2.alloc (.cells #[.int .u16 (x0 : Int), .int .u16 (x1 : Int), .int .u16 (x2 : Int), .int .u16 (x3 : Int), .int .u16 (x4 : Int), .int .u16 (x5 : Int), .int .u16 (x6 : Int), .int .u16 (x7 : Int)] 26)) w2.heap.size 26 (gg.map u16V) := by
    rw [HGE.out]; exact heap_alloc_new w2 _
  have hb13 := Bt hb12 hst3
  clear hb2 hst1 hb12 hst3 cG
  go_wp2_with fail
  refine (cL.out _).mono ?_
  rintro e w4 ⟨rfl, hb4⟩
  have hR4 := hR.below hb4
  have hb14 := Bt hb13 hb4
  clear hR hb4 hb13 cL
  generalize w2.heap.size = G at *
  have sA := slAll8 G
  by_cases hs : sz < 2
  · have hsI : (sz : Int) < 2 := by omega
    have hu := hR4.usl 0
    have cD := Lib.hid (hexad_digits (some ⟨G, 0, none⟩) 8 gg w4 hu (by omega) HLT.out)
    rw [hgg] at cD
    have htx := HTX.out
    rw [if_pos hs] at htx
    rw [← htx] at cD
    clear htx hu
    go_wp2_with fail
    refine cD.out.mono ?_
    rintro e w5 ⟨rfl, hb5⟩
    go_wp2_with fail
    go_ret
    exact ⟨rfl, Bt hb14 hb5⟩
  · have hsI : ¬ (sz : Int) < 2 := by omega
    have hk : at_ + sz ≤ 8 := hle
    have u1 := (hR4.usl 0).take at_
    have u2 : USl w4 (some ⟨G, if 8 = at_ + sz then 0 else at_ + sz, none⟩) (gg.drop (at_ + sz)) := by
      by_cases h : 8 = at_ + sz
      · rw [if_pos h, ← h, List.drop_eq_nil_of_le (by omega)]
        intro j x hx
        simp at hx
      · rw [if_neg h]
        exact hR4.usl (at_ + sz)
    rw [List.drop_zero] at u1
    have l1 : (gg.take at_).length = at_ := by rw [List.length_take]; omega
    have l2 : (gg.drop (at_ + sz)).length = 8 - (at_ + sz) := by rw [List.length_drop, hgg]
    have p1 : ∀ x ∈ gg.take at_, x < 65536 := fun x hx => HLT.out x (List.mem_of_mem_take hx)
    have p2 : ∀ x ∈ gg.drop (at_ + sz), x < 65536 := fun x hx => HLT.out x (List.mem_of_mem_drop hx)
    have j1 := joins_len p1
    have j2 := joins_len p2
    have q1 := ofL_size (joinA 58 ((gg.take at_).map hexG))
    have q2 := ofL_size (joinA 58 ((gg.drop (at_ + sz)).map hexG))
    have cD1 : Hid (∀ W, Below w4.heap.size w4 W → Calls Tryd.prog 14 #[.slice (some ⟨G, 0, none⟩) at_ at_] W fun e w' => e = .returned (.string (ofL (joinA 58 ((gg.take at_).map hexG)))) ∧ Below W.heap.size W w') := Lib.hid fun W hb => by
      have := hexad_digits (some ⟨G, 0, none⟩) at_ (gg.take at_) W (u1.below hb) (by omega) p1
      rw [l1] at this
      exact this
    have cD2 : Hid (∀ W, Below w4.heap.size w4 W → Calls Tryd.prog 14 #[.slice (some ⟨G, if 8 = at_ + sz then 0 else at_ + sz, none⟩) (8 - (at_ + sz)) (8 - (at_ + sz))] W fun e w' => e = .returned (.string (ofL (joinA 58 ((gg.drop (at_ + sz)).map hexG)))) ∧ Below W.heap.size W w') := Lib.hid fun W hb => by
      have := hexad_digits (some ⟨G, if 8 = at_ + sz then 0 else at_ + sz, none⟩) (8 - (at_ + sz)) (gg.drop (at_ + sz)) W (u2.below hb) (by omega) p2
      rw [l2] at this
      exact this
    have htx := HTX.out
    rw [if_neg hs] at htx
    have hfin : ofL TX = ofL (joinA 58 ((gg.take at_).map hexG)) ++ (⟨#[58, 58]⟩ : ByteArray) ++ ofL (joinA 58 ((gg.drop (at_ + sz)).map hexG)) := by
      rw [htx]
      show _ = ofL _ ++ ofL [58, 58] ++ ofL _
      rw [ofL_app, ofL_app]
      simp
    have HFIN := Lib.hid hfin
    have sH := slHead8 G at_ (by omega)
    have sT := slTail8 G (at_ + sz) hk
    rw [Int.natCast_add] at sT
    have z1 : IntKind.i64.wrap ((at_ : Int) + (sz : Int)) = (at_ : Int) + (sz : Int) := IntWalk.i64_in _ (by omega)
    have s1 : (ofL (joinA 58 ((gg.take at_).map hexG))).size ≤ 45 := by omega
    have s2 : (ofL (joinA 58 ((gg.drop (at_ + sz)).map hexG))).size ≤ 45 := by omega
    clear htx hfin u1 u2 l1 l2 p1 p2 j1 j2 q1 q2 HTX HGE hR4 sA
    generalize ofL (joinA 58 ((gg.take at_).map hexG)) = S1 at *
    generalize ofL (joinA 58 ((gg.drop (at_ + sz)).map hexG)) = S2 at *
    generalize (if 8 = at_ + sz then 0 else at_ + sz) = kk at *
    generalize 8 - (at_ + sz) = rr at *
    have n1 : ¬ 9223372036854775807 < S1.size + 2 := by omega
    have n2 : ¬ 9223372036854775807 < S1.size + 2 + S2.size := by omega
    have hd := (Below.refl w4.heap.size w4).drew
    go_upto_region 5 with (fail)
    go_region_law (go_simp; go_at_call 14; (first | with_reducible refine (cD1.out _ (by assumption)).mono ?_ | with_reducible refine (cD2.out _ (by assumption)).mono ?_); rintro e w6 ⟨rfl, hk6⟩; (have hk7 : Below w4.heap.size w4 w6 := Bt (by assumption) hk6); dsimp only)
    all_goals
      have hbE := Bt hb14 hk7
      go_wp2_with fail
      go_ret
      exact ⟨ret_str HFIN.out.symm, hbE⟩
end Go.Proofs.YtameipbnobaoeaaDoor
