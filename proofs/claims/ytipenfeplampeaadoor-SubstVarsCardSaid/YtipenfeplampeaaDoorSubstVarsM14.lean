/- subst.CheckVar. -/
import Derived.Test.YtipenfeplampeaaDoorSubstVarsM12
import Derived.Test.YtipenfeplampeaaDoorSubstVarsM13
import Derived.Test.YtipenfeplampeaaDoorSubstVarsM8
import Derived.Test.YtipenfeplampeaaDoorSubstVarsM6
import Derived.Test.YtipenfeplampeaaDoorSubstVarsM7
import Derived.Test.YtipenfeplampeaaDoorSubstVarsM9
import Derived.Laws.OwnMore
import Derived.Deep.OwnRows
import Derived.Test.YtipenfeplampeaaDoorSubstVarsM1
import Derived.Test.YtipenfeplampeaaDoorShelf
import Derived.Lib.IndexMore

namespace Go.Proofs.YtipenfeplampeaaDoor
open Go.RowKit

def CVPost (name : ByteArray) (vals : List ByteArray) (w : World) (e : Ending) (w' : World) : Prop := Below w.heap.size w w' ∧ (((cvP name vals).1 = 0 ∧ (cvP name vals).2.2 = 0 ∧ e = .returned .nilIface) ∨
  ((cvP name vals).1 ≠ 0 ∧ (cvP name vals).2.2 = 0 ∧ ∃ v, e = .returned v ∧ IsFault w' v (cvP name vals).1 (cvP name vals).2.1) ∨
  ((cvP name vals).1 ≠ 0 ∧ (cvP name vals).2.2 ≠ 0 ∧ ∃ v u at_, e = .returned v ∧ FaultIs w' v (cvP name vals).1 (cvP name vals).2.1 u ∧ IsFault w' u (cvP name vals).2.2 at_))
set_option maxHeartbeats 12800000 in
set_option maxRecDepth 100000 in
theorem sub_CheckVar (name : ByteArray) (pa : Option Addr) (cap : Nat) (vals : List ByteArray) (w : World) (hU : Utf8Laid w) (hL : ClassLaid w) (hv : StrsV w (.slice pa vals.length cap) vals) (hz : name.size ≤ 16777216) (hvz : ∀ v ∈ vals, v.size ≤ 16777216) (hvl : vals.length ≤ 16777216) :
    Calls Tryd.prog 7 #[.agg #[.string name, .slice pa vals.length cap]] w (CVPost name vals w) := by
  have hst1 : Below w.heap.size w (w.alloc (.cells #[.string name, .slice pa vals.length cap] 24)) := (Below.refl _ _).alloc (Nat.le_refl _) _
  have hq0 := heap_alloc_new w (.cells #[.string name, .slice pa vals.length cap] 24)
  have hl0 := lt_of_block hq0
  have hF : ∀ W, Below (w.alloc (.cells #[.string name, .slice pa vals.length cap] 24)).heap.size (w.alloc (.cells #[.string name, .slice pa vals.length cap] 24)) W → W.cell? ⟨w.heap.size, 0, none⟩ = some (.string name) ∧ W.cell? ⟨w.heap.size, 1, none⟩ = some (.slice pa vals.length cap) ∧ StrsV W (.slice pa vals.length cap) vals ∧ w.heap.size < W.heap.size ∧ Below w.heap.size w W ∧ Utf8Laid W ∧ ClassLaid W := fun W hW =>
    ⟨cell_of_row _ _ 0 _ _ _ ((hW.block _ hl0).trans hq0), cell_of_row _ _ 1 _ _ _ ((hW.block _ hl0).trans hq0), (hv.below hst1).below hW, Nat.lt_of_lt_of_le hl0 hW.size, Bt hst1 hW, hU.below (Bt hst1 hW), hL.below (Bt hst1 hW)⟩
  have HF := Lib.hid hF
  have HVZ := Lib.hid hvz
  have hbn : badN name = (decide (name.size = 0) || (decide (64 < name.size) || ((ownC name).isSome || (markB name ⟨#[36, 40, 41]⟩ || (chrs name).2.isSome)))) := rfl
  have HBN := Lib.hid hbn
  clear hF hq0 hl0 hv hvz hU hL hbn
  have hd0 := Below.refl (w.alloc (.cells #[.string name, .slice pa vals.length cap] 24)).heap.size (w.alloc (.cells #[.string name, .slice pa vals.length cap] 24))
  clear hst1
  have FIN : ∀ (W : World) (k i : Nat), Below (w.alloc (.cells #[.string name, .slice pa vals.length cap] 24)).heap.size (w.alloc (.cells #[.string name, .slice pa vals.length cap] 24)) W → k ≠ 0 → cvP name vals = (k, i, 0) → ∀ v W', IsFault W' v k i → Below W.heap.size W W' → CVPost name vals w (.returned v) W' := fun W k i hW hk hc v W' hf hb =>
    ⟨Bt (HF.out W hW).2.2.2.2.1 hb, .inr (.inl ⟨by rw [hc]; exact hk, by rw [hc], v, rfl, by rw [hc]; exact hf⟩)⟩
  have HFIN := Lib.hid FIN
  clear FIN
  obtain ⟨f0, f1, _, hl1, _, hU1, hL1⟩ := HF.out _ hd0
  go_enter Tryd.func7, Tryd.ntmps7
  by_cases k1 : name.size = 0
  · have HB := Lib.hid (cv_bad (vals := vals) (name := name) (by rw [HBN.out]; simp [k1]))
    have est := isEmpty_yes k1
    clear k1
    go_wp2_with fail
    refine (api_Fail' 30 0 _).mono ?_
    rintro e w6 ⟨v6, rfl, hf6, hb6⟩
    have HR := Lib.hid (HFIN.out _ 30 0 hd0 (by decide) HB.out _ _ hf6 hb6)
    obtain ⟨z, rfl⟩ := hf6.ne_nil
    clear hf6 hb6
    go_wp2_with fail
    go_ret
    exact HR.out
  have est := isEmpty_no (s := name) (by omega)
  by_cases k2 : 64 < name.size
  · have e2 : (64 : Int) < (name.size : Int) := by omega
    have HB := Lib.hid (cv_bad (vals := vals) (name := name) (by rw [HBN.out]; simp [k2]))
    clear k1 k2
    go_wp2_with fail
    refine (api_Fail' 30 0 _).mono ?_
    rintro e w6 ⟨v6, rfl, hf6, hb6⟩
    have HR := Lib.hid (HFIN.out _ 30 0 hd0 (by decide) HB.out _ _ hf6 hb6)
    obtain ⟨z, rfl⟩ := hf6.ne_nil
    clear hf6 hb6
    go_wp2_with fail
    go_ret
    exact HR.out
  have e2 : ¬ (64 : Int) < (name.size : Int) := by omega
  go_wp2_with fail
  refine (sub_Own name _ hL1).mono ?_
  rintro e w2 ⟨rfl, hb2⟩
  obtain ⟨a0, a1, _, _, _, hU2, hL2⟩ := HF.out _ hb2
  cases k3 : (ownC name).isSome with
  | true =>
    have HB := Lib.hid (cv_bad (vals := vals) (name := name) (by rw [HBN.out, k3]; simp))
    clear k1 k2 k3 f0 f1
    go_wp2_with fail
    refine (api_Fail' 30 0 _).mono ?_
    rintro e w6 ⟨v6, rfl, hf6, hb6⟩
    have HR := Lib.hid (HFIN.out _ 30 0 hb2 (by decide) HB.out _ _ hf6 hb6)
    obtain ⟨z, rfl⟩ := hf6.ne_nil
    clear hf6 hb6
    go_wp2_with fail
    go_ret
    exact HR.out
  | false =>
    clear f0 f1
    go_wp2_with fail
    refine (sub_marked name ⟨#[36, 40, 41]⟩ _ (by omega)).mono ?_
    rintro e w3 ⟨rfl, hb3⟩
    have hb13 := Bt hb2 hb3
    obtain ⟨b0, b1, _, _, _, hU3, hL3⟩ := HF.out _ hb13
    cases k4 : markB name ⟨#[36, 40, 41]⟩ with
    | true =>
      have HB := Lib.hid (cv_bad (vals := vals) (name := name) (by rw [HBN.out, k4]; simp))
      clear k1 k2 k3 k4 a0 a1
      go_wp2_with fail
      refine (api_Fail' 30 0 _).mono ?_
      rintro e w6 ⟨v6, rfl, hf6, hb6⟩
      have HR := Lib.hid (HFIN.out _ 30 0 hb13 (by decide) HB.out _ _ hf6 hb6)
      obtain ⟨z, rfl⟩ := hf6.ne_nil
      clear hf6 hb6
      go_wp2_with fail
      go_ret
      exact HR.out
    | false =>
      clear a0 a1 hb2 hb3
      have HBX := Lib.hid (show badN name = (chrs name).2.isSome by rw [HBN.out, decide_eq_false k1, decide_eq_false k2, k3, k4]; simp)
      clear k1 k2 k3 k4 HBN
      go_wp2_with ((with_reducible refine wpList_bytes_sl rfl 9 45 5 _ rfl name rfl Tryd.underlying9 Tryd.underlying45 Tryd.underlying5 (by omega) ?_); intro v4 w4 hv4 hb4)
      have hb14 := Bt hb13 hb4
      refine (utf_Valid v4 name _ (hU3.below hb4) hz hv4).mono ?_
      rintro e w5 ⟨hb5, hvl5⟩
      have hb15 := Bt hb14 hb5
      obtain ⟨c0, c1, cs, hlc, hb05, hU5, hL5⟩ := HF.out _ hb15
      clear b0 b1 hv4 hb13 hb4 hb14 hb5
      rcases hvl5 with ⟨hn, rfl⟩ | ⟨ii, hi, v5, rfl, hv5⟩
      · have HNB := Lib.hid (show badN name = false by rw [HBX.out, hn]; rfl)
        clear hn HBX
        by_cases k5 : 256 < vals.length
        · have e5 : (256 : Int) < (vals.length : Int) := by omega
          have HB := Lib.hid (cv_many HNB.out k5)
          clear k5
          go_wp2_with fail
          refine (api_Fail' 15 256 _).mono ?_
          rintro e w6 ⟨v6, rfl, hf6, hb6⟩
          have HR := Lib.hid (HFIN.out _ 15 256 hb15 (by decide) HB.out _ _ hf6 hb6)
          obtain ⟨z, rfl⟩ := hf6.ne_nil
          clear hf6 hb6
          go_wp2_with fail
          go_ret
          exact HR.out
        · have e5 : ¬ (256 : Int) < (vals.length : Int) := by omega
          have HC := Lib.hid (cv_loop HNB.out k5)
          clear k5 cs
          generalize w.alloc (.cells #[.string name, .slice pa vals.length cap] 24) = w1 at *
          go_wp2_with fail
          go_loopw [35] (fun x wr => ∃ i : Nat, i ≤ vals.length ∧ x = .int .i64 i ∧ cvL (vals.drop i) i = cvL vals 0 ∧ Below w1.heap.size w1 wr) (fun x _ => vals.length - (intOf x).toNat)
          case atStart => exact ⟨0, Nat.zero_le _, rfl, by rw [List.drop_zero], hb15⟩
          case round =>
            obtain ⟨i, hil, rfl, hci, hbr⟩ := hrel
            obtain ⟨_, _, qs, hlr, hb0r, hUr, hLr⟩ := HF.out _ hbr
            by_cases hlt : i < vals.length
            · have hiI : (i : Int) < (vals.length : Int) := by omega
              obtain ⟨v, hvi⟩ : ∃ v, vals[i]? = some v := ⟨_, List.getElem?_eq_getElem hlt⟩
              obtain ⟨pa', cap', e9, _, hcell⟩ := qs
              cases e9
              obtain ⟨b, off, hpa, hbw, hce⟩ := hcell i v hvi
              have hvz := HVZ.out v (List.mem_of_getElem? hvi)
              rw [cvL_at hvi, ← mark_one] at hci
              have HCI := Lib.hid hci
              clear hci hvi hcell hb15 hb05 c0 c1
              subst hpa
              go_wp2_with fail
              refine (sub_marked v ⟨#[36]⟩ _ (by omega)).mono ?_
              rintro e w6 ⟨rfl, hb6⟩
              have hbr6 := Bt hbr hb6
              cases hm : markB v ⟨#[36]⟩ with
              | true =>
                have HB := Lib.hid (show cvP name vals = (11, i, 0) by rw [HC.out, ← HCI.out, if_pos hm])
                clear HCI hm hce
                go_wp2_with fail
                refine (api_Fail' 11 (i : Int) _).mono ?_
                rintro e w7 ⟨v7, rfl, hf7, hb7⟩
                have HR := Lib.hid (HFIN.out _ 11 i hbr6 (by decide) HB.out _ _ hf7 hb7)
                obtain ⟨z, rfl⟩ := hf7.ne_nil
                clear hf7 hb7
                go_wp2_with fail
                go_ret
                exact HR.out
              | false =>
                have hU6 := hUr.below hb6
                have HM := Lib.hid (show ¬ markB v ⟨#[36]⟩ = true by rw [hm]; decide)
                clear hm hce
                go_wp2_with fail
                refine (glob_Check v _ hU6 (by omega)).mono ?_
                rintro e w7 ⟨hb7, hk⟩
                have hbr7 := Bt hbr6 hb7
                rcases hk with ⟨hok, _, rfl⟩ | ⟨hok, hk0, u, rfl, hfu⟩
                · have HX := Lib.hid (show cvL (vals.drop (i + 1)) (i + 1) = cvL vals 0 by rw [← HCI.out, if_neg HM.out, if_neg (by rw [hok]; decide)])
                  clear HCI HM hok hbr hbr6 hb6 hb7
                  go_wp2_with fail
                  go_roundw
                  case rel => exact ⟨i + 1, by omega, by go_num, HX.out, hbr7⟩
                  case measure => simp [intOf]; omega
                · have HB := Lib.hid (show cvP name vals = (11, i, (chkP v).1) by rw [HC.out, ← HCI.out, if_neg HM.out, if_pos hok])
                  have HFU := Lib.hid hfu
                  have HK0 := Lib.hid hk0
                  obtain ⟨zu, rfl⟩ := hfu.ne_nil
                  have hb07 := (HF.out _ hbr7).2.2.2.2.1
                  clear HCI HM hok hbr hbr6 hb6 hb7 hfu hk0
                  generalize hkk : chkP v = kk at *
                  clear hkk
                  go_wp2_with fail
                  refine (wrap_fault 11 (i : Int) _ _ ⟨_, _, rfl⟩).mono ?_
                  rintro e w8 ⟨u8, rfl, hf8, hb8⟩
                  have hb08 := Bt hb07 hb8
                  have hfu8 := FaultIs.below HFU.out hb8
                  have HR : Hid (CVPost name vals w (.returned u8) w8) := Lib.hid ⟨hb08, .inr (.inr ⟨by rw [HB.out]; exact Nat.succ_ne_zero 10, by rw [HB.out]; exact HK0.out, u8, _, _, rfl, by rw [HB.out]; exact hf8, by rw [HB.out]; exact hfu8⟩)⟩
                  obtain ⟨z8, rfl⟩ := hf8.ne_nil
                  clear hf8 hb8 hfu8 HFU
                  go_wp2_with fail
                  go_ret
                  exact HR.out
            · obtain rfl : i = vals.length := by omega
              rw [List.drop_length, cvL] at hci
              have HX := Lib.hid (show cvP name vals = (0, 0, 0) by rw [HC.out, ← hci])
              clear hci
              go_wp2_with fail
              go_ret
              exact ⟨hb0r, .inl ⟨by rw [HX.out], by rw [HX.out], rfl⟩⟩
      · have HB := Lib.hid (cv_bad (vals := vals) (name := name) (by rw [HBX.out, hi]; rfl))
        obtain ⟨z5, rfl⟩ := hv5.ne_nil
        clear hi HBX hv5
        go_wp2_with fail
        refine (api_Fail' 30 0 _).mono ?_
        rintro e w6 ⟨v6, rfl, hf6, hb6⟩
        have HR := Lib.hid (HFIN.out _ 30 0 hb15 (by decide) HB.out _ _ hf6 hb6)
        obtain ⟨z, rfl⟩ := hf6.ne_nil
        clear hf6 hb6
        go_wp2_with fail
        go_ret
        exact HR.out
end Go.Proofs.YtipenfeplampeaaDoor

/- Parts of patterns with variables, in memory. -/
namespace Go.Proofs.YtipenfeplampeaaDoor
open Go.RowKit

theorem info_piece : (Tryd.prog.info? 73).map (fun i => (i.zero, i.size, i.bytes)) = some (some (.agg #[.string ⟨#[]⟩, .bool false, .int .i64 0]), 3, 32) := by kernel_rfl

def pieceCells (p : PcS) : List Value := [.string p.text, .bool p.isVar, .int .i64 (p.place : Int)]
def piecesV (l : List PcS) : List Value := l.flatMap pieceCells
theorem piecesV_len (l : List PcS) : (piecesV l).length = l.length * 3 := by
  induction l with
  | nil => rfl
  | cons p l ih =>
    unfold piecesV at ih ⊢
    rw [List.flatMap_cons, List.length_append, ih, List.length_cons]
    show 3 + _ = _
    omega
theorem piecesV_app (a b : List PcS) : piecesV (a ++ b) = piecesV a ++ piecesV b := by unfold piecesV; exact List.flatMap_append
theorem piecesV_at {l : List PcS} {i : Nat} {p : PcS} (h : l[i]? = some p) (j : Nat) (hj : j < 3) : (piecesV l)[i * 3 + j]? = (pieceCells p)[j]? := by
  induction l generalizing i with
  | nil => simp at h
  | cons q l ih =>
    cases i with
    | zero =>
      simp at h; subst h
      show (pieceCells q ++ piecesV l)[0 * 3 + j]? = _
      rw [List.getElem?_append_left (by show _ < 3; omega)]
      congr 1; omega
    | succ i =>
      simp at h
      show (pieceCells q ++ piecesV l)[(i + 1) * 3 + j]? = _
      rw [List.getElem?_append_right (by show 3 ≤ _; omega), ← ih h]
      congr 1
      show (i + 1) * 3 + j - 3 = _
      omega
theorem piecesV_one (p : PcS) : ∀ u ∈ pieceCells p, u.oneCell' = true := by
  intro u hu
  unfold pieceCells at hu
  simp at hu
  rcases hu with rfl | rfl | rfl <;> rfl

def OwnPc (w : World) (base : Nat) (v : Value) (l : List PcS) : Prop := w.ownsRow base 73 3 v l.length (piecesV l)

theorem OwnPc.below {w w' : World} {base : Nat} {v : Value} {l : List PcS} (h : OwnPc w base v l) (hb : Below w.heap.size w w') : OwnPc w' base v l := ownsRow_below h hb
theorem OwnPc.nil (w : World) (base : Nat) : OwnPc w base (.slice none 0 0) [] := World.ownsRow_nil _ _ _ _
theorem OwnPc.under {w0 w w' : World} {base : Nat} {v : Value} {l : List PcS} (h : OwnPc w base v l) (hb : Below w0.heap.size w0 w) (hB : w0.heap.size ≤ base) (hg : w.grownBy w' v.ownBlock) : Below w0.heap.size w0 w' :=
  hb.grown hg hb.size (fun j hj => Nat.le_trans hB (World.ownsRow.lt h j hj).1)
theorem wpList_app_piece {w : World} {ops : Array Oper} {rest : List Oper} {o : Oper} {a : Act} {Q : Exit → Act → World → Prop} (hgd : o.guard = none) (s x : Operand) (ho : o.op = .call { callee := .builtin .append, args := #[s, x], argTypes := #[69, 69] })
    (base : Nat) (v : Value) (l : List PcS) (hs : a.eval s = v) (hown : OwnPc w base v l) (g c : Nat) (p : PcS) (hx : a.eval x = .slice (some ⟨g, 0, none⟩) 1 c) (hb : w.heap[g]? = some (.cells (pieceCells p).toArray 73 (0, 0)))
    (hl : l.length ≤ 1073741824) (hbase : base ≤ w.heap.size)
    (h : ∀ v' w', OwnPc w' base v' (l ++ [p]) → w.grownBy w' v.ownBlock → wpList Tryd.prog ops Q rest (a.put o.dst v') w') : wpList Tryd.prog ops Q (o :: rest) a w := by
  obtain ⟨i, hi, hz, hsize, hby⟩ := info_parts info_piece
  refine wpList_append_own _ hgd s x 69 ho base 73 i _ 3 32 Tryd.underlying69 hi hz hsize hby rfl (by decide) v _ _ hs hown _ 1 c (pieceCells p) hx rfl ?_ (piecesV_one p) (by unfold maxLen; omega) (by omega) hbase ?_
  · intro j u hj
    rw [Addr.add_lit, Nat.zero_add, cell_of_row w g j _ _ _ hb, ← hj]
    simp
  · intro v' w' h1 h2 _
    refine h v' w' ?_ h2
    unfold OwnPc
    rw [List.length_append, piecesV_app]
    have : piecesV [p] = pieceCells p := by unfold piecesV; simp
    rw [this]
    exact h1

theorem OwnPc.shape3 {w : World} {base : Nat} {v : Value} {l : List PcS} (h : OwnPc w base v l) : ∃ a n c, v = .slice a n c := by
  unfold OwnPc at h
  rcases h.2 with ⟨e0, _⟩ | ⟨g, cap, cur, e0, _⟩
  · exact ⟨_, _, _, e0⟩
  · exact ⟨_, _, _, e0⟩
/-- A slice of parts. -/
def PcsSl (w : World) (a : Option Addr) (l : List PcS) : Prop := ∀ (i : Nat) (p : PcS), l[i]? = some p → ∃ b, a = some ⟨b, 0, none⟩ ∧ b < w.heap.size ∧
  w.cell? ⟨b, i * 3, none⟩ = some (.string p.text) ∧ w.cell? ⟨b, i * 3 + 1, none⟩ = some (.bool p.isVar) ∧ w.cell? ⟨b, i * 3 + 2, none⟩ = some (.int .i64 (p.place : Int))
theorem PcsSl.below {w w' : World} {a : Option Addr} {l : List PcS} (h : PcsSl w a l) (hb : Below w.heap.size w w') : PcsSl w' a l := by
  intro i p hp
  obtain ⟨b, e, hlt, h1, h2, h3⟩ := h i p hp
  exact ⟨b, e, Nat.lt_of_lt_of_le hlt hb.size, (hb.cell (p := ⟨b, i * 3, none⟩) hlt).trans h1, (hb.cell (p := ⟨b, i * 3 + 1, none⟩) hlt).trans h2, (hb.cell (p := ⟨b, i * 3 + 2, none⟩) hlt).trans h3⟩
theorem OwnPc.sl {w : World} {base n c : Nat} {a : Option Addr} {l : List PcS} (h : OwnPc w base (.slice a n c) l) : n = l.length ∧ n ≤ c ∧ c ≤ maxLen ∧ PcsSl w a l := by
  unfold OwnPc at h
  rcases h.2 with ⟨e0, e1⟩ | ⟨g, cap, cur, e0, hg, hh, h1, h2, _⟩
  · cases e0
    refine ⟨e1.symm, Nat.le_refl _, by unfold maxLen; omega, fun i p hp => ?_⟩
    have := (List.getElem?_eq_some_iff.1 hp).1
    omega
  · cases e0
    refine ⟨rfl, h1, h2, fun i p hp => ?_⟩
    have hc := h.cells (g := g) rfl
    have c0 := hc (i * 3 + 0) _ ((piecesV_at hp 0 (by omega)).trans rfl)
    have c1 := hc (i * 3 + 1) _ ((piecesV_at hp 1 (by omega)).trans rfl)
    have c2 := hc (i * 3 + 2) _ ((piecesV_at hp 2 (by omega)).trans rfl)
    simp only [Addr.add_lit, Nat.zero_add, Nat.add_zero] at c0 c1 c2
    exact ⟨g, rfl, lt_of_block hh, c0, c1, c2⟩

end Go.Proofs.YtipenfeplampeaaDoor

/- A variable of the library that is read on the way. -/
namespace Go.Proofs.YtipenfeplampeaaDoor
open Go.RowKit

/-- The variable of the library that is read on the way: it holds some number. -/
def MaxAt (w : World) : Prop := ∃ m, w.cell? ⟨2, 0, none⟩ = some (.int .i64 m)
theorem MaxAt.below {w w' : World} (h : MaxAt w) (hb : Below w.heap.size w w') : MaxAt w' := by
  obtain ⟨m, hm⟩ := h
  have hlt : 2 < w.heap.size := by
    unfold World.cell? at hm
    cases hh : w.heap[(⟨2, 0, none⟩ : Addr).block]? with
    | none => rw [hh] at hm; simp at hm
    | some o => exact (Array.getElem?_eq_some_iff.1 hh).1
  exact ⟨m, (hb.cell (p := ⟨2, 0, none⟩) hlt).trans hm⟩
end Go.Proofs.YtipenfeplampeaaDoor

/- subst.pieces: the parts of a pattern with variables. -/
namespace Go.Proofs.YtipenfeplampeaaDoor
open Go.RowKit

theorem pre_pair (b : UInt8) (l : List UInt8) : ([36, 40] : List UInt8).isPrefixOf (b :: l) = decide (b = 36 ∧ l.head? = some 40) := by
  cases l with
  | nil => simp [List.isPrefixOf]
  | cons c l =>
    rw [Bool.eq_iff_iff]
    simp [List.isPrefixOf]
    constructor
    · rintro ⟨rfl, rfl⟩; exact ⟨rfl, rfl⟩
    · rintro ⟨rfl, rfl⟩; exact ⟨rfl, rfl⟩
theorem idx_pair : ∀ l : List UInt8, Lib.index l [36, 40] = -1 ∨ ∃ n : Nat, Lib.index l [36, 40] = (n : Int) ∧ n + 2 ≤ l.length := by
  intro l
  induction l with
  | nil => exact .inl rfl
  | cons c l ih =>
    rw [Lib.index, pre_pair]
    by_cases h : c = 36 ∧ l.head? = some 40
    · rw [decide_eq_true h, if_pos rfl]
      refine .inr ⟨0, rfl, ?_⟩
      cases l with
      | nil => simp at h
      | cons d l => simp
    · rw [decide_eq_false h, if_neg (by decide)]
      rcases ih with h1 | ⟨n, h1, h2⟩
      · rw [h1]; exact .inl rfl
      · rw [h1]
        refine .inr ⟨n + 1, ?_, by rw [List.length_cons]; omega⟩
        rw [if_neg (by simp <;> omega)]
        simp
/-- What is left to be told, from a place on. -/
def PcSt (p : ByteArray) (acc : List PcS) (at_ : Nat) : Prop := at_ ≤ p.size ∧ acc.length ≤ 2 * at_ ∧ ∃ f, p.size - at_ < f ∧ acc ++ (pcF p f at_).1 = (pcs p).1 ∧ (pcF p f at_).2 = (pcs p).2
theorem PcSt.zero (p : ByteArray) : PcSt p [] 0 := ⟨Nat.zero_le _, by simp, p.size + 1, by omega, rfl, rfl⟩
theorem PcSt.done {p : ByteArray} {acc : List PcS} {k : Nat} (h : PcSt p acc k) (hk : ¬ k < p.size) : (pcs p) = (acc, -1) := by
  obtain ⟨_, _, f, hf, h1, h2⟩ := h
  obtain ⟨f, rfl⟩ : ∃ f', f = f' + 1 := ⟨f - 1, by omega⟩
  rw [pcF, if_neg hk] at h1 h2
  rw [← Prod.eta (pcs p), ← h1, ← h2, List.append_nil]
theorem PcSt.none {p : ByteArray} {acc : List PcS} {k : Nat} (h : PcSt p acc k) (hk : k < p.size) (hi : Lib.index (p.extract k p.size).data.toList [36, 40] = -1) : (pcs p) = (acc ++ [⟨p.extract k p.size, false, k⟩], -1) := by
  obtain ⟨_, _, f, hf, h1, h2⟩ := h
  obtain ⟨f, rfl⟩ : ∃ f', f = f' + 1 := ⟨f - 1, by omega⟩
  rw [pcF, if_pos hk, hi, if_pos (by decide)] at h1 h2
  rw [← Prod.eta (pcs p), ← h1, ← h2]
/-- The part ahead of a variable. -/
def preP (p : ByteArray) (k n : Nat) : List PcS := if 0 < n then [⟨p.extract k (k + n), false, k⟩] else []
theorem pre_int (p : ByteArray) (k n : Nat) : (if (0 : Int) < (n : Int) then [(⟨p.extract k (k + n), false, k⟩ : PcS)] else []) = preP p k n := by
  unfold preP
  by_cases h : 0 < n
  · rw [if_pos h, if_pos (by omega)]
  · rw [if_neg h, if_neg (by omega)]
theorem PcSt.bad {p : ByteArray} {acc : List PcS} {k n : Nat} (h : PcSt p acc k) (hk : k < p.size) (hi : Lib.index (p.extract k p.size).data.toList [36, 40] = (n : Int)) (hc : cutH 41 (p.extract (k + n + 2) p.size) = false) : (pcs p) = (acc ++ preP p k n, ((k + n : Nat) : Int)) := by
  obtain ⟨_, _, f, hf, h1, h2⟩ := h
  obtain ⟨f, rfl⟩ : ∃ f', f = f' + 1 := ⟨f - 1, by omega⟩
  rw [pcF, if_pos hk, hi, if_neg (by omega), Int.toNat_natCast, if_neg (by rw [hc]; decide), pre_int] at h1 h2
  rw [← Prod.eta (pcs p), ← h1, ← h2]
theorem PcSt.step {p : ByteArray} {acc : List PcS} {k n : Nat} (h : PcSt p acc k) (hk : k < p.size) (hi : Lib.index (p.extract k p.size).data.toList [36, 40] = (n : Int)) (hc : cutH 41 (p.extract (k + n + 2) p.size) = true)
    (hb : k + n + 2 + (cutN 41 (p.extract (k + n + 2) p.size)).size + 1 ≤ p.size) : PcSt p (acc ++ preP p k n ++ [⟨cutN 41 (p.extract (k + n + 2) p.size), true, k + n⟩]) (k + n + 2 + (cutN 41 (p.extract (k + n + 2) p.size)).size + 1) := by
  obtain ⟨_, hl, f, hf, h1, h2⟩ := h
  obtain ⟨f, rfl⟩ : ∃ f', f = f' + 1 := ⟨f - 1, by omega⟩
  rw [pcF, if_pos hk, hi, if_neg (by omega), Int.toNat_natCast, if_pos hc, pre_int] at h1 h2
  refine ⟨hb, ?_, f, by omega, ?_, h2⟩
  · have : (preP p k n).length ≤ 1 := by unfold preP; split <;> simp
    simp only [List.length_append, List.length_cons, List.length_nil]
    omega
  · rw [← h1]; simp
end Go.Proofs.YtipenfeplampeaaDoor
