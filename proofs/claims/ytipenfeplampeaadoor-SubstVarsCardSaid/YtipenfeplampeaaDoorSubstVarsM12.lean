/- The reference's CheckVar of chapter 19. -/
import Derived.Test.YtipenfeplampeaaDoorSubstVarsM7
import Derived.Test.YtipenfeplampeaaDoorSubstVarsM9
import Derived.Test.YtipenfeplampeaaDoorSubstVarsM11
import Derived.Test.YtipenfeplampeaaDoorSubstVarsM5
import Derived.Test.YtipenfeplampeaaDoorShelf
import Derived.Lib.IndexLaws
import Derived.Test.YtipenfeplampeaaDoorSubstVarsM8

namespace Go.Proofs.YtipenfeplampeaaDoor
open Go.RowKit

def RCVPost (name : ByteArray) (vals : List ByteArray) (w : World) (e : Ending) (w' : World) : Prop := Below w.heap.size w w' ∧ e = .returned (.tuple #[.int .i64 ((cvP name vals).1 : Int), .int .i64 ((cvP name vals).2.1 : Int), .int .i64 ((cvP name vals).2.2 : Int)])
theorem cv_bad {name : ByteArray} {vals : List ByteArray} (h : badN name = true) : cvP name vals = (30, 0, 0) := by unfold cvP; rw [if_pos h]
theorem cv_many {name : ByteArray} {vals : List ByteArray} (h : badN name = false) (h2 : 256 < vals.length) : cvP name vals = (15, 256, 0) := by unfold cvP; rw [if_neg (by rw [h]; decide), if_pos h2]
theorem cv_loop {name : ByteArray} {vals : List ByteArray} (h : badN name = false) (h2 : ¬ 256 < vals.length) : cvP name vals = cvL vals 0 := by unfold cvP; rw [if_neg (by rw [h]; decide), if_neg h2]
theorem cvL_at {vals : List ByteArray} {i : Nat} {v : ByteArray} (h : vals[i]? = some v) : cvL (vals.drop i) i = if hasB v 36 = true then (11, i, 0) else if okP v = false then (11, i, (chkP v).1) else cvL (vals.drop (i + 1)) (i + 1) := by
  obtain ⟨hi, rfl⟩ := List.getElem?_eq_some_iff.1 h
  rw [List.drop_eq_getElem_cons hi, cvL]
set_option maxHeartbeats 12800000 in
set_option maxRecDepth 100000 in
theorem ref19_CheckVar (name : ByteArray) (pa : Option Addr) (cap : Nat) (vals : List ByteArray) (w : World) (hv : StrsV w (.slice pa vals.length cap) vals) (hz : name.size ≤ 16777216) (hvz : ∀ v ∈ vals, v.size ≤ 16777216) (hvl : vals.length ≤ 16777216) :
    Calls Tryd.prog 6 #[.agg #[.string name, .slice pa vals.length cap]] w (RCVPost name vals w) := by
  have hst1 : Below w.heap.size w (w.alloc (.cells #[.string name, .slice pa vals.length cap] 24)) := (Below.refl _ _).alloc (Nat.le_refl _) _
  have hq0 := heap_alloc_new w (.cells #[.string name, .slice pa vals.length cap] 24)
  have hl0 := lt_of_block hq0
  have hF : ∀ W, Below (w.alloc (.cells #[.string name, .slice pa vals.length cap] 24)).heap.size (w.alloc (.cells #[.string name, .slice pa vals.length cap] 24)) W → W.cell? ⟨w.heap.size, 0, none⟩ = some (.string name) ∧ W.cell? ⟨w.heap.size, 1, none⟩ = some (.slice pa vals.length cap) ∧ StrsV W (.slice pa vals.length cap) vals ∧ w.heap.size < W.heap.size ∧ Below w.heap.size w W := fun W hW =>
    ⟨cell_of_row _ _ 0 _ _ _ ((hW.block _ hl0).trans hq0), cell_of_row _ _ 1 _ _ _ ((hW.block _ hl0).trans hq0), (hv.below hst1).below hW, Nat.lt_of_lt_of_le hl0 hW.size, Bt hst1 hW⟩
  have HF := Lib.hid hF
  have HVZ := Lib.hid hvz
  clear hF hq0 hl0 hv hvz
  have hd0 := Below.refl (w.alloc (.cells #[.string name, .slice pa vals.length cap] 24)).heap.size (w.alloc (.cells #[.string name, .slice pa vals.length cap] 24))
  clear hst1
  go_enter Tryd.func6, Tryd.ntmps6
  go_wp2_with fail
  generalize w.alloc (.cells #[.string name, .slice pa vals.length cap] 24) = w1 at *
  refine (ref19_Class name _).mono ?_
  rintro e w2 ⟨hcl, hb2⟩
  obtain ⟨cn, cz, rfl, hcz⟩ : ∃ (cn : ByteArray) (cz : Nat), e = .returned (.tuple #[.string cn, .int .i64 (cz : Int)]) ∧ ((ownC name).isSome = decide (0 < cz)) ∧ cz ≤ 2 := by
    rcases hcl with ⟨h1, rfl⟩ | ⟨am, sz, h1, h2, h3, rfl⟩
    · exact ⟨_, 0, rfl, by rw [h1]; rfl, by omega⟩
    · exact ⟨_, sz, rfl, by rw [h1, decide_eq_true (by omega)]; rfl, h3⟩
  clear hcl
  obtain ⟨f0, f1, _, hl2, hb02⟩ := HF.out _ hb2
  have hbn : badN name = (decide (name.size = 0) || (decide (64 < name.size) || ((ownC name).isSome || (markB name ⟨#[36, 40, 41]⟩ || (chrs name).2.isSome)))) := rfl
  rw [mark_three, hcz.1] at hbn
  go_wp2_with ((with_reducible refine wpList_bytes_sl rfl 9 45 5 _ rfl name rfl Tryd.underlying9 Tryd.underlying45 Tryd.underlying5 (by omega) ?_); intro v3 w3 hv3 hb3)
  have hb13 := Bt hb2 hb3
  refine (ref_Chars v3 name _ hz hv3).mono ?_
  rintro e w4 ⟨hb4, hcp⟩
  have hb14 := Bt hb13 hb4
  obtain ⟨vp, ip, rfl, hip⟩ : ∃ vp ip, e = .returned (.tuple #[vp, .int .i64 ip]) ∧ (chrs name).2.isSome = decide (0 ≤ ip) := by
    rcases hcp with ⟨hn, v4, e3, _⟩ | ⟨k, hk, a3, e3⟩
    · exact ⟨_, _, e3, by rw [hn]; rfl⟩
    · exact ⟨_, _, e3, by rw [hk, decide_eq_true (by omega)]; rfl⟩
  rw [hip] at hbn
  obtain ⟨g0, g1, gs, hl4, hb04⟩ := HF.out _ hb14
  have hcz2 := hcz.2
  have c5 := Lib.hid (show ∀ W : World, Calls Tryd.prog 16 #[.string name, .int .u8 36] W fun e w' => e = .returned (.bool (hasB name 36)) ∧ W = w' from fun W => ref_Has name 36 W (by omega))
  have c6 := Lib.hid (show ∀ W : World, Calls Tryd.prog 16 #[.string name, .int .u8 40] W fun e w' => e = .returned (.bool (hasB name 40)) ∧ W = w' from fun W => ref_Has name 40 W (by omega))
  have c7 := Lib.hid (show ∀ W : World, Calls Tryd.prog 16 #[.string name, .int .u8 41] W fun e w' => e = .returned (.bool (hasB name 41)) ∧ W = w' from fun W => ref_Has name 41 W (by omega))
  clear hcp hip hv3 hb2 hb3 hb13 hb4 f0 f1 hb02 hl2 hcz
  generalize hasB name 36 = h36 at *
  generalize hasB name 40 = h40 at *
  generalize hasB name 41 = h41 at *
  have HBN := Lib.hid hbn
  clear hbn
  by_cases k1 : name.size = 0
  · have e1 : ((name.size : Int) == 0) = true := by rw [beq_iff_eq]; omega
    have HB := Lib.hid (cv_bad (vals := vals) (name := name) (by rw [HBN.out]; simp [k1]))
    clear k1
    go_wp2_with fail
    go_ret3
    exact ⟨hb04, by rw [HB.out]; rfl⟩
  have e1 : ((name.size : Int) == 0) = false := by rw [beq_eq_false_iff_ne]; omega
  by_cases k2 : 64 < name.size
  · have e2 : (64 : Int) < (name.size : Int) := by omega
    have HB := Lib.hid (cv_bad (vals := vals) (name := name) (by rw [HBN.out]; simp [k2]))
    clear k1 k2
    go_wp2_with fail
    go_ret3
    exact ⟨hb04, by rw [HB.out]; rfl⟩
  have e2 : ¬ (64 : Int) < (name.size : Int) := by omega
  by_cases k3 : 0 < cz
  · have e3 : (0 : Int) < (cz : Int) := by omega
    have HB := Lib.hid (cv_bad (vals := vals) (name := name) (by rw [HBN.out]; simp [k3]))
    clear k1 k2 k3
    go_wp2_with fail
    go_ret3
    exact ⟨hb04, by rw [HB.out]; rfl⟩
  have e3 : ¬ (0 : Int) < (cz : Int) := by omega
  by_cases k4 : 0 ≤ ip
  · have HB := Lib.hid (cv_bad (vals := vals) (name := name) (by rw [HBN.out]; simp [k4]))
    clear k1 k2 k3
    go_wp2_with fail
    go_ret3
    exact ⟨hb04, by rw [HB.out]; rfl⟩
  have HBX := Lib.hid (show badN name = (h36 || (h40 || h41)) by rw [HBN.out, decide_eq_false k1, decide_eq_false k2, decide_eq_false k3, decide_eq_false k4]; simp)
  clear k1 k2 k3 HBN
  go_wp2_with fail
  refine (c5.out _).mono ?_
  rintro e w5 ⟨rfl, rfl⟩
  cases h36 with
  | true =>
    have HB := Lib.hid (cv_bad (vals := vals) (name := name) (by rw [HBX.out]; rfl))
    go_wp2_with fail
    go_ret3
    exact ⟨hb04, by rw [HB.out]; rfl⟩
  | false =>
    go_wp2_with fail
    refine (c6.out _).mono ?_
    rintro e w5 ⟨rfl, rfl⟩
    cases h40 with
    | true =>
      have HB := Lib.hid (cv_bad (vals := vals) (name := name) (by rw [HBX.out]; rfl))
      go_wp2_with fail
      go_ret3
      exact ⟨hb04, by rw [HB.out]; rfl⟩
    | false =>
      go_wp2_with fail
      refine (c7.out _).mono ?_
      rintro e w5 ⟨rfl, rfl⟩
      cases h41 with
      | true =>
        have HB := Lib.hid (cv_bad (vals := vals) (name := name) (by rw [HBX.out]; rfl))
        go_wp2_with fail
        go_ret3
        exact ⟨hb04, by rw [HB.out]; rfl⟩
      | false =>
        have HNB := Lib.hid (show badN name = false by rw [HBX.out]; rfl)
        clear HBX
        by_cases k5 : 256 < vals.length
        · have e5 : (256 : Int) < (vals.length : Int) := by omega
          have HB := Lib.hid (cv_many HNB.out k5)
          clear k5
          go_wp2_with fail
          go_ret3
          exact ⟨hb04, by rw [HB.out]; rfl⟩
        · have e5 : ¬ (256 : Int) < (vals.length : Int) := by omega
          have HC := Lib.hid (cv_loop HNB.out k5)
          clear k5 gs
          go_wp2_with fail
          go_loopw [9] (fun x wr => ∃ i : Nat, i ≤ vals.length ∧ x = .int .i64 i ∧ cvL (vals.drop i) i = cvL vals 0 ∧ Below w1.heap.size w1 wr) (fun x _ => vals.length - (intOf x).toNat)
          case atStart => exact ⟨0, Nat.zero_le _, rfl, by rw [List.drop_zero], hb14⟩
          case round =>
            obtain ⟨i, hil, rfl, hci, hbr⟩ := hrel
            obtain ⟨q0, q1, qs, hlr, hb0r⟩ := HF.out _ hbr
            by_cases hlt : i < vals.length
            · have hiI : (i : Int) < (vals.length : Int) := by omega
              obtain ⟨v, hvi⟩ : ∃ v, vals[i]? = some v := ⟨_, List.getElem?_eq_getElem hlt⟩
              obtain ⟨pa', cap', e9, _, hcell⟩ := qs
              cases e9
              obtain ⟨b, off, hpa, hbw, hce⟩ := hcell i v hvi
              have hvz := HVZ.out v (List.mem_of_getElem? hvi)
              rw [cvL_at hvi] at hci
              have cH := Lib.hid (show ∀ W : World, Calls Tryd.prog 16 #[.string v, .int .u8 36] W fun e w' => e = .returned (.bool (hasB v 36)) ∧ W = w' from fun W => ref_Has v 36 W (by omega))
              have cK := Lib.hid (fun W => ref_Check v W (by omega))
              have hok := chkP_ok v
              have HCI := Lib.hid hci
              have HOK := Lib.hid hok
              clear hci hvi hcell hok hb14 hb04
              subst hpa
              generalize hasB v 36 = hh at *
              go_wp2_with fail
              refine (cH.out _).mono ?_
              rintro e w6 ⟨rfl, rfl⟩
              cases hh with
              | true =>
                have HX := Lib.hid (show cvP name vals = (11, i, 0) by rw [HC.out, ← HCI.out, if_pos rfl])
                clear HCI
                go_wp2_with fail
                go_ret3
                exact ⟨hb0r, by rw [HX.out]; rfl⟩
              | false =>
                go_wp2_with fail
                refine (cK.out _).mono ?_
                rintro e w7 ⟨hb7, rfl⟩
                have hbr7 := Bt hbr hb7
                have hb07 := Bt hb0r hb7
                by_cases hk : (chkP v).1 = 0
                · have ek : (((chkP v).1 : Int) == 0) = true := by rw [beq_iff_eq]; omega
                  have HX := Lib.hid (show cvL (vals.drop (i + 1)) (i + 1) = cvL vals 0 by rw [← HCI.out, if_neg (by decide), if_neg (by rw [HOK.out.1 hk]; decide)])
                  have ek2 : ((chkP v).1 : Int) = 0 := by omega
                  clear HCI hk hbr hb7 q0 q1 ek2
                  generalize (chkP v).1 = kk at *
                  generalize (chkP v).2 = kk2 at *
                  go_wp2_with fail
                  go_roundw
                  case rel => exact ⟨i + 1, by omega, by go_num, HX.out, hbr7⟩
                  case measure => simp [intOf]; omega
                · have ek : (((chkP v).1 : Int) == 0) = false := by rw [beq_eq_false_iff_ne]; omega
                  have hno : okP v = false := by
                    cases ho : okP v
                    · rfl
                    · exact absurd (HOK.out.2 ho) hk
                  have HX := Lib.hid (show cvP name vals = (11, i, (chkP v).1) by rw [HC.out, ← HCI.out, if_neg (by decide), if_pos hno])
                  clear HCI hk hbr hb7 q0 q1 hno
                  generalize (chkP v).1 = kk at *
                  generalize (chkP v).2 = kk2 at *
                  go_wp2_with fail
                  go_ret3
                  exact ⟨hb07, by rw [HX.out]; rfl⟩
            · obtain rfl : i = vals.length := by omega
              rw [List.drop_length, cvL] at hci
              have HX := Lib.hid (show cvP name vals = (0, 0, 0) by rw [HC.out, ← hci])
              clear hci
              go_wp2_with fail
              go_ret3
              exact ⟨hb0r, by rw [HX.out]; rfl⟩
end Go.Proofs.YtipenfeplampeaaDoor

/- fold.All. -/
namespace Go.Proofs.YtipenfeplampeaaDoor
open Go.RowKit

/-- Do all bytes of a text stand in another one? -/
def allB (s m : ByteArray) : Bool := (List.range s.size).all fun i => hasB m (byteAt s i)
theorem allB_no {s m : ByteArray} {i : Nat} (hi : i < s.size) (h : hasB m (byteAt s i) = false) : allB s m = false := by
  unfold allB; rw [List.all_eq_false]; exact ⟨i, by simpa using hi, by simpa using h⟩
theorem allB_yes {s m : ByteArray} (h : ∀ i, i < s.size → hasB m (byteAt s i) = true) : allB s m = true := by
  unfold allB; rw [List.all_eq_true]; intro i hi; exact h i (by simpa using hi)
theorem index_has (m : ByteArray) (c : UInt8) : (hasB m c = true ∧ 0 ≤ Lib.indexByte m.data.toList c) ∨ (hasB m c = false ∧ Lib.indexByte m.data.toList c < 0) := by
  have hl : m.data.toList.length = m.size := rfl
  have hge := Lib.indexByte_ge m.data.toList c
  by_cases h : Lib.indexByte m.data.toList c = -1
  · refine .inr ⟨hasB_no fun j hj e => ?_, by omega⟩
    have := Lib.indexByte_none h j
    rw [List.getElem?_eq_getElem (by omega)] at this
    apply this
    rw [← e]
    unfold byteAt
    rw [List.getD, List.getElem?_eq_getElem (by omega)]; rfl
  · obtain ⟨o, ho⟩ := Int.eq_ofNat_of_zero_le (show 0 ≤ Lib.indexByte m.data.toList c by omega)
    have h2 := (Lib.indexByte_some ho).1
    have hlt : o < m.data.toList.length := (List.getElem?_eq_some_iff.1 h2).1
    refine .inl ⟨hasB_yes (k := o) (by omega) ?_, by omega⟩
    unfold byteAt
    rw [List.getD, h2]; rfl

end Go.Proofs.YtipenfeplampeaaDoor

/- subst.marked. -/
namespace Go.Proofs.YtipenfeplampeaaDoor
open Go.RowKit

set_option maxHeartbeats 1600000 in
theorem sub_marked (s m : ByteArray) (w : World) (hs : s.size ≤ 140737488351232) : Calls Tryd.prog 18 #[.string s, .string m] w fun e w' => e = .returned (.bool (markB s m)) ∧ Below w.heap.size w w' := by
  go_enter Tryd.func18, Tryd.ntmps18
  go_wp2_with ((with_reducible refine wpList_bytes (o := ⟨some 8, _, _, _, _, _⟩) rfl 9 45 5 _ rfl s rfl Tryd.underlying9 Tryd.underlying45 Tryd.underlying5 ?_); intro cap w1 hcap hB hb1 hsz1)
  go_loopw [10] (fun a wr => ∃ i : Nat, i ≤ s.size ∧ a = .int .i64 i ∧ (∀ j, j < i → hasB m (byteAt s j) = false) ∧ w1 = wr) (fun a _ => s.size - (intOf a).toNat)
  case atStart => exact ⟨0, Nat.zero_le _, rfl, fun j hj => by omega, rfl⟩
  case round =>
    obtain ⟨i, hil, rfl, hall, rfl⟩ := hrel
    have HA := Lib.hid hall
    clear hall
    by_cases hlt : i < s.size
    · have hc := hB.byte hlt
      have hix := index_has m (byteAt s i)
      have hstep : hasB m (byteAt s i) = false → ∀ j, j < i + 1 → hasB m (byteAt s j) = false := fun h j hj => by
        by_cases hji : j = i
        · rw [hji]; exact h
        · exact HA.out j (by omega)
      have hyes : hasB m (byteAt s i) = true → markB s m = true := markB_yes hlt
      have HS := Lib.hid hstep
      have HY := Lib.hid hyes
      clear hstep hyes
      have hcall := fun W => Tryd.strings_IndexByte m ((byteAt s i).toNat : Int) W
      have hcc : ((((byteAt s i).toNat : Int)).toNat.toUInt8) = byteAt s i := by simp
      rw [hcc] at hcall
      have HC := Lib.hid hcall
      clear hcall hcc
      generalize hxx : byteAt s i = c at *
      generalize Lib.indexByte m.data.toList c = ix at *
      clear hxx
      rcases hix with ⟨h1, h2⟩ | ⟨h1, h2⟩
      · have H1 := Lib.hid (HY.out h1)
        clear h1
        go_wp2_with fail
        refine (HC.out _).mono ?_
        rintro e w2 ⟨rfl, rfl⟩
        go_wp2_with fail
        go_ret
        exact ⟨ret_bool H1.out.symm, hb1⟩
      · have H1 := Lib.hid h1
        clear h1
        go_wp2_with fail
        refine (HC.out _).mono ?_
        rintro e w2 ⟨rfl, rfl⟩
        go_wp2_with fail
        go_roundw
        case rel => exact ⟨i + 1, by omega, by go_num, HS.out H1.out, by trivial⟩
        case measure => simp [intOf]; omega
    · have hy := Lib.hid (markB_no (s := s) (m := m) fun j hj => HA.out j (by omega))
      go_wp2_with fail
      go_ret
      exact ⟨ret_bool hy.out.symm, hb1⟩
end Go.Proofs.YtipenfeplampeaaDoor

/- subst.Own, values. -/
namespace Go.Proofs.YtipenfeplampeaaDoor
open Go.RowKit

set_option maxHeartbeats 800000 in
theorem sub_Own (s : ByteArray) (w : World) (hL : ClassLaid w) : Calls Tryd.prog 12 #[.string s] w fun e w' => e = .returned (.bool (ownC s).isSome) ∧ Below w.heap.size w w' := by
  go_enter Tryd.func12, Tryd.ntmps12
  go_wp2_with fail
  refine (sub_own s _ hL).mono ?_
  rintro e w2 ⟨h, hb2⟩
  rcases h with ⟨h1, rfl⟩ | ⟨n, am, sz, h1, _, _, rfl⟩
  · have hal : Below w2.heap.size w2 (w2.alloc (.cells #[.string ⟨#[]⟩, .string ⟨#[]⟩, .int .i64 0] 61)) := (Below.refl _ _).alloc (Nat.le_refl _) _
    have hb3 := Bt hb2 hal
    have H := Lib.hid (show (ownC s).isSome = false by rw [h1]; rfl)
    clear h1 hb2 hal
    go_wp2_with fail
    go_ret
    exact ⟨ret_bool H.out.symm, hb3⟩
  · have hal : Below w2.heap.size w2 (w2.alloc (.cells #[.string n, .string am, .int .i64 (sz : Int)] 61)) := (Below.refl _ _).alloc (Nat.le_refl _) _
    have hb3 := Bt hb2 hal
    have H := Lib.hid (show (ownC s).isSome = true by rw [h1]; rfl)
    clear h1 hb2 hal
    go_wp2_with fail
    go_ret
    exact ⟨ret_bool H.out.symm, hb3⟩
set_option maxHeartbeats 800000 in
theorem val_fn (q : Nat) (s : ByteArray) (l : List (ByteArray × Value)) (w : World) (hq : q < w.heap.size) (hs : w.cell? ⟨q, 0, none⟩ = some (.string s)) (hl : ∀ x ∈ l, ∃ a n c, x.2 = .slice a n c) :
    TestVar w 59 #[.pointer (some ⟨q, 0, none⟩)] (fun x => decide (x.1 = s)) l := by
  intro W x hx hb
  have hc := (hb.cell (p := ⟨q, 0, none⟩) hq).trans hs
  obtain ⟨a, n, c, hxu⟩ := hl x hx
  obtain ⟨xn, xu⟩ := x
  simp only at hxu
  subst hxu
  have he := str_eqB xn s
  have hal : Below W.heap.size W (W.alloc (.cells #[.string xn, .slice a n c] 24)) := (Below.refl _ _).alloc (Nat.le_refl _) _
  have hlt := Nat.lt_of_lt_of_le hq hb.size
  show Calls Tryd.prog _ #[.agg #[.string xn, .slice a n c], .pointer (some ⟨q, 0, none⟩)] W _
  clear hs hq hb hx hl
  simp only
  generalize decide (xn = s) = r at *
  go_enter Tryd.func59, Tryd.ntmps59
  go_wp2_with fail
  go_ret
  exact ⟨ret_bool rfl, hal⟩
theorem val_cases (s : ByteArray) (vars : List SVar) (us : List (ByteArray × Value)) (w : World) (hlen : us.length = vars.length) (h : ∀ (i : Nat) (v : SVar), vars[i]? = some v → ∃ u, us[i]? = some (v.1, u) ∧ StrsV w u v.2) :
    (findG (fun x => decide (x.1 = s)) us = -1 ∧ findV vars s = none) ∨ ∃ i u n l, findG (fun x => decide (x.1 = s)) us = ((i : Nat) : Int) ∧ i < vars.length ∧ us[i]? = some (n, u) ∧ findV vars s = some l ∧ StrsV w u l := by
  unfold findV findG
  cases hf : us.findIdx? (fun x => decide (x.1 = s)) with
  | none =>
    refine .inl ⟨rfl, ?_⟩
    rw [List.findIdx?_eq_none_iff] at hf
    rw [List.find?_eq_none.2 ?_]
    · rfl
    · intro v hv
      obtain ⟨i, hi⟩ := List.getElem?_of_mem hv
      obtain ⟨u, hu, _⟩ := h i v hi
      simpa using hf _ (List.mem_of_getElem? hu)
  | some i =>
    obtain ⟨hi, h1, h2⟩ := List.findIdx?_eq_some_iff_getElem.1 hf
    have hiv : i < vars.length := by omega
    have hx : vars[i]? = some vars[i] := List.getElem?_eq_getElem hiv
    obtain ⟨u, hu, hs⟩ := h i _ hx
    have hui : us[i] = (vars[i].1, u) := by
      have := List.getElem?_eq_getElem hi
      rw [hu] at this
      injection this with this
      exact this.symm
    refine .inr ⟨i, u, vars[i].1, vars[i].2, rfl, hiv, hu, ?_, hs⟩
    have : vars.find? (fun v => decide (v.1 = s)) = some vars[i] := by
      rw [List.find?_eq_some_iff_getElem]
      refine ⟨by rw [hui] at h1; exact h1, i, hiv, rfl, fun j hj => ?_⟩
      obtain ⟨uj, huj, _⟩ := h j _ (List.getElem?_eq_getElem (show j < vars.length by omega))
      have huj' : us[j] = (vars[j].1, uj) := by
        have := List.getElem?_eq_getElem (show j < us.length by omega)
        rw [huj] at this
        injection this with this
        exact this.symm
      have := h2 j hj
      rw [huj'] at this
      simpa using this
    rw [this]; rfl
def ValPost (vars : List SVar) (s : ByteArray) (w : World) (e : Ending) : Prop := (findV vars s = none ∧ e = .returned (.tuple #[.slice none 0 0, .bool false])) ∨ ∃ u l, findV vars s = some l ∧ StrsV w u l ∧ e = .returned (.tuple #[u, .bool true])
theorem us_slices {w : World} {vars : List SVar} {us : List (ByteArray × Value)} (hlen : us.length = vars.length) (h : ∀ (i : Nat) (v : SVar), vars[i]? = some v → ∃ u, us[i]? = some (v.1, u) ∧ StrsV w u v.2) : ∀ x ∈ us, ∃ a n c, x.2 = .slice a n c := by
  intro x hx
  obtain ⟨i, hi⟩ := List.getElem?_of_mem hx
  have hl := (List.getElem?_eq_some_iff.1 hi).1
  obtain ⟨u, hu, a, cap, e, _⟩ := h i _ (List.getElem?_eq_getElem (show i < vars.length by omega))
  rw [hi] at hu
  injection hu with hu
  rw [hu]
  exact ⟨_, _, _, e⟩
set_option maxHeartbeats 1600000 in
set_option maxRecDepth 100000 in
theorem sub_values (a : Option Addr) (cap : Nat) (vars : List SVar) (s : ByteArray) (w : World) (hv : VarsSl w a vars) (hl : vars.length ≤ 16777216) :
    Calls Tryd.prog 44 #[.slice a vars.length cap, .string s] w fun e w' => ValPost vars s w e ∧ Below w.heap.size w w' := by
  obtain ⟨us, h1, h2, h3⟩ := hv
  have hst1 : Below w.heap.size w (w.alloc (.cells #[.string s] 9)) := (Below.refl _ _).alloc (Nat.le_refl _) _
  have hq : (w.alloc (.cells #[.string s] 9)).cell? ⟨w.heap.size, 0, none⟩ = some (.string s) := by simp
  have cI := var_IndexFunc a cap us 59 #[.pointer (some ⟨w.heap.size, 0, none⟩)] (fun x => decide (x.1 = s)) _ (h1.below hst1) (by omega) (enters_of Tryd.func59 (by kernel_rfl) rfl) (val_fn w.heap.size s us _ (by simp) hq (us_slices h2 h3))
  rw [h2] at cI
  have CI := Lib.hid cI
  have hoc := val_cases s vars us w h2 h3
  clear cI hq h3
  go_enter Tryd.func44, Tryd.ntmps44
  go_wp2_with fail
  refine CI.out.mono ?_
  rintro e w2 ⟨rfl, hb2⟩
  have hb02 := Bt hst1 hb2
  have h12 := h1.below hb02
  clear hst1 hb2 CI h1
  rcases hoc with ⟨h1, h2⟩ | ⟨i, u, n, l, h1, hi, h3, h4, h5⟩
  · rw [h1]
    have H2 := Lib.hid h2
    clear h1 h2 h12
    go_wp2_with fail
    go_ret2
    exact ⟨.inl ⟨H2.out, rfl⟩, hb02⟩
  · rw [h1]
    obtain ⟨b, off, rfl, hbw, d0, d1⟩ := h12 i _ h3
    have hiI : (i : Int) < (vars.length : Int) := by omega
    have H4 := Lib.hid h4
    have H5 := Lib.hid h5
    simp only at d0 d1
    clear h1 h3 h4 h5 h12
    go_wp2_with fail
    go_ret2
    exact ⟨.inr ⟨_, _, H4.out, H5.out, rfl⟩, hb02⟩
set_option maxHeartbeats 1600000 in
theorem sub_values' (a : Option Addr) (cap : Nat) (vars : List SVar) (s : ByteArray) (w : World) (hv : VarsSl w a vars) (hl : vars.length ≤ 16777216) :
    Calls Tryd.prog 44 #[.slice a vars.length cap, .string s] w fun e w' => ∃ u, e = .returned (.tuple #[u, .bool (findV vars s).isSome]) ∧ StrsV w' u ((findV vars s).getD []) ∧ Below w.heap.size w w' :=
  (sub_values a cap vars s w hv hl).mono fun e w' ⟨h, hb⟩ => by
    rcases h with ⟨h1, rfl⟩ | ⟨u, l, h1, h2, rfl⟩
    · rw [h1]
      exact ⟨_, rfl, ⟨none, 0, rfl, Nat.le_refl _, fun i s h => by simp at h⟩, hb⟩
    · rw [h1]
      exact ⟨u, rfl, h2.below hb, hb⟩
end Go.Proofs.YtipenfeplampeaaDoor
