/- The reference's wrong, one, Items of chapter 16. -/
import Derived.Test.YtiaafljbddamhaaDoorQueryReadsM9
import Derived.Test.YtiaafljbddamhaaDoorQueryReadsM10
import Derived.Test.YtiaafljbddamhaaDoorQueryReadsM11

namespace Go.Proofs.YtiaafljbddamhaaDoor
open Go.RowKit

/-- The place of the first escape of a part that isn't right. -/
def wrongP (p : ByteArray) : Option Nat :=
  match (told (cutN 61 p)).2 with
  | some i => some i
  | none => match (told (cutV 61 p)).2 with
    | some i => some ((cutN 61 p).size + 1 + i)
    | none => none
def RWrongPost (p : ByteArray) (w : World) (e : Ending) (w' : World) : Prop := (∃ q, w.drewN q = w') ∧ ((wrongP p = none ∧ e = .returned (.int .i64 (-1))) ∨ (∃ i : Nat, wrongP p = some i ∧ e = .returned (.int .i64 (i : Int))))
theorem told_nil : (told ⟨#[]⟩).2 = none := by decide +kernel
theorem wrong1 {p : ByteArray} {i : Nat} (h : (told (cutN 61 p)).2 = some i) : wrongP p = some i := by unfold wrongP; rw [h]
theorem wrong2 {p : ByteArray} {i : Nat} (h0 : (told (cutN 61 p)).2 = none) (h : (told (cutV 61 p)).2 = some i) : wrongP p = some ((cutN 61 p).size + 1 + i) := by unfold wrongP; rw [h0, h]
theorem wrong3 {p : ByteArray} (h0 : (told (cutN 61 p)).2 = none) (h : (told (cutV 61 p)).2 = none) : wrongP p = none := by unfold wrongP; rw [h0, h]
set_option maxHeartbeats 1600000 in
set_option maxRecDepth 100000 in
theorem ref_wrong (p : ByteArray) (w : World) (hs : p.size ≤ 4000000) : Calls Tryd.prog 65 #[.string p] w (RWrongPost p w) := by
  obtain ⟨lim, hl, hno, eN, hN, hV⟩ := cut_lim 61 p
  have cN := fun W => ref_Right03 (cutN 61 p) W (by omega)
  have H1 := Lib.hid (fun i h => @wrong1 p i h)
  have H2 := Lib.hid (fun i h0 h => @wrong2 p i h0 h)
  have H3 := Lib.hid (fun h0 h => @wrong3 p h0 h)
  have hN' := hN
  rw [eN] at cN
  have CN := Lib.hid cN
  have EN := Lib.hid eN
  have HNN := Lib.hid hN
  have HNO := Lib.hid hno
  have HV := Lib.hid hV
  clear cN eN hN hN' hV hno
  go_enter Tryd.func65, Tryd.ntmps65
  go_wp2_with fail
  go_loopw [3] (fun x wr => ∃ k : Nat, k ≤ lim ∧ x = .int .i64 k ∧ w = wr) (fun x _ => lim - (intOf x).toNat)
  case atStart => exact ⟨0, Nat.zero_le _, rfl, rfl⟩
  case round =>
    obtain ⟨k, hk, rfl, rfl⟩ := hrel
    by_cases hlt : k < lim
    · have hkp : k < p.size := by omega
      have e1 : ((p[k].toNat : Int) != 61) = true := u8_neN (n := 61) (by decide) (byteAt_ix hkp ▸ HNO.out k hlt)
      go_wp2_with fail
      go_roundw
      case rel => exact ⟨k + 1, by omega, by go_num, by trivial⟩
      case measure => simp [intOf]; omega
    · obtain rfl : k = lim := by omega
      rcases HV.out with ⟨rfl, eV, eH⟩ | ⟨hlt2, hb2, eV, eH⟩
      · have cN := CN.out
        rw [cut_full p _ rfl] at cN
        have CN := Lib.hid cN
        have eN := EN.out
        rw [cut_full p _ rfl] at eN
        have EN := Lib.hid eN
        clear cN eN
        go_wp2_with fail
        refine (CN.out _).mono ?_
        rintro e w1 ⟨⟨q, rfl⟩, h⟩
        rcases h with ⟨hn, rfl⟩ | ⟨i, hi, rfl⟩
        · have HR := Lib.hid (H3.out (by rw [EN.out]; exact hn) (by rw [eV]; exact told_nil))
          clear hn eV eH
          go_wp2_with fail
          go_ret
          exact ⟨⟨_, rfl⟩, .inl ⟨HR.out, rfl⟩⟩
        · have HR := Lib.hid (H1.out i (by rw [EN.out]; exact hi))
          clear hi eV eH
          go_wp2_with fail
          go_ret
          exact ⟨⟨_, rfl⟩, .inr ⟨i, HR.out, rfl⟩⟩
      · have hkp := hlt2
        have e1 : ((p[k].toNat : Int) != 61) = false := u8_eqN (n := 61) (by decide) (byteAt_ix hkp ▸ hb2)
        have CV := Lib.hid (fun W => ref_Right03 (p.extract (k + 1) p.size) W (by rw [ByteArray.size_extract]; omega))
        clear hb2 eH
        go_wp2_with fail
        refine (CN.out _).mono ?_
        rintro e w1 ⟨⟨q, rfl⟩, h⟩
        rcases h with ⟨hn, rfl⟩ | ⟨i, hi, rfl⟩
        · have hn' := hn
          rw [← EN.out] at hn'
          have HN' := Lib.hid hn'
          clear hn hn'
          go_wp2_with fail
          refine (CV.out _).mono ?_
          rintro e w1 ⟨⟨q, rfl⟩, h⟩
          rcases h with ⟨hv, rfl⟩ | ⟨i, hi, rfl⟩
          · have HR := Lib.hid (H3.out HN'.out (by rw [eV]; exact hv))
            clear hv eV
            go_wp2_with fail
            go_ret
            exact ⟨⟨_, rfl⟩, .inl ⟨HR.out, rfl⟩⟩
          · have hr := H2.out i HN'.out (by rw [eV]; exact hi)
            have hi2 := told_lt _ i hi
            rw [ByteArray.size_extract] at hi2
            rw [HNN.out] at hr
            have HR := Lib.hid hr
            clear hi eV hr
            go_wp2_with fail
            go_ret
            exact ⟨⟨_, rfl⟩, .inr ⟨_, HR.out, by rw [Int.natCast_add, Int.natCast_add]; rfl⟩⟩
        · have HR := Lib.hid (H1.out i (by rw [EN.out]; exact hi))
          clear hi eV
          go_wp2_with fail
          go_ret
          exact ⟨⟨_, rfl⟩, .inr ⟨i, HR.out, rfl⟩⟩
/-- What the reference's one gives of a part whose escapes are right. -/
def ROnePost (p : ByteArray) (w : World) (e : Ending) (w' : World) : Prop := Below w.heap.size w w' ∧ ∃ (x : It) (ok : Bool), e = .returned (.tuple #[.agg #[.string x.name, .string x.value, .bool x.has], .bool ok]) ∧ (ok = true → itemP p = .ok x) ∧ (ok = false → itemP p = .error (12, 0))
theorem wrong_none {p : ByteArray} (h : wrongP p = none) : (told (cutN 61 p)).2 = none ∧ (told (cutV 61 p)).2 = none := by
  unfold wrongP at h
  split at h
  · cases h
  · next h1 => split at h
               · cases h
               · next h2 => exact ⟨h1, h2⟩
theorem bytesT_nil : bytesT ⟨#[]⟩ = [] := by decide +kernel
theorem chars_neg {l : List UInt8} {v : Value} {a : Int} (h : ((chrs (ofL l)).2 = none ∧ a = -1) ∨ ∃ i : Nat, (chrs (ofL l)).2 = some i ∧ a = i) : decide (a < 0) = okS l := by
  rcases h with ⟨h, rfl⟩ | ⟨i, h, rfl⟩
  · rw [okS_yes h]; rfl
  · rw [okS_no h]; simp
set_option maxHeartbeats 3200000 in
set_option maxRecDepth 100000 in
theorem ref_one (p : ByteArray) (w : World) (hs : p.size ≤ 4000000) (hw : wrongP p = none) : Calls Tryd.prog 66 #[.string p] w (ROnePost p w) := by
  obtain ⟨lim, hl, hno, eN, hN, hV⟩ := cut_lim 61 p
  obtain ⟨h1, h2⟩ := wrong_none hw
  have HU := Lib.hid (fun h => @itemP_utf p h1 h2 h)
  have HOK := Lib.hid (fun h => @itemP_ok p h1 h2 h)
  have hbn : (ofL (bytesT (cutN 61 p))).size ≤ 4000000 := by rw [ofL_size]; exact Nat.le_trans (bytesT_len _) (by have := cutN_size 61 p; omega)
  have hbv : (ofL (bytesT (cutV 61 p))).size ≤ 4000000 := by rw [ofL_size]; exact Nat.le_trans (bytesT_len _) (by have := cutV_size 61 p; omega)
  have cN := fun W => ref_Decode (cutN 61 p) W (by omega) h1
  rw [eN] at cN
  have cV := fun W => ref_Decode (cutV 61 p) W (by have := cutV_size 61 p; omega) h2
  have CN := Lib.hid cN
  have CV := Lib.hid cV
  have EN := Lib.hid eN
  have HNO := Lib.hid hno
  have HV := Lib.hid hV
  clear cN cV hN hV hno h1 h2 hw
  rw [← eN] at CN
  clear eN
  go_enter Tryd.func66, Tryd.ntmps66
  go_wp2_with fail
  go_loopw [4] (fun x wr => ∃ k : Nat, k ≤ lim ∧ x = .int .i64 k ∧ w.alloc (.cells #[.string ⟨#[]⟩, .string ⟨#[]⟩, .bool false] 78) = wr) (fun x _ => lim - (intOf x).toNat)
  case atStart => exact ⟨0, Nat.zero_le _, rfl, rfl⟩
  case round =>
    obtain ⟨k, hk, rfl, hwr⟩ := hrel
    have hz0 : ItemAt wr w.heap.size ⟨#[]⟩ ⟨#[]⟩ false := by rw [← hwr]; exact ItemAt.new
    have hb0 : Below w.heap.size w wr := by rw [← hwr]; exact (Below.refl _ _).alloc (Nat.le_refl _) _
    have HWR := Lib.hid hwr
    clear hwr
    by_cases hlt : k < lim
    · have hkp : k < p.size := by omega
      have e1 : ((p[k].toNat : Int) != 61) = true := u8_neN (n := 61) (by decide) (byteAt_ix hkp ▸ HNO.out k hlt)
      go_wp2_with fail
      go_roundw
      case rel => exact ⟨k + 1, by omega, by go_num, HWR.out⟩
      case measure => simp [intOf]; omega
    · obtain rfl : k = lim := by omega
      have cN := CN.out
      clear HWR HNO CN
      rcases HV.out with ⟨rfl, eV, eH⟩ | ⟨hlt2, hb2, eV, eH⟩
      · have eP := EN.out
        rw [cut_full p _ rfl] at eP
        have ebv : ofL (bytesT (cutV 61 p)) = ⟨#[]⟩ := by rw [eV, bytesT_nil]; rfl
        have EBV := Lib.hid ebv
        have EH := Lib.hid eH
        have hvz : (⟨#[]⟩ : ByteArray).size ≤ 4000000 := by decide
        have CN := Lib.hid (fun W => (congrArg (fun x => Calls Tryd.prog 100 #[.string x] W fun e w' => ∃ v, e = .returned v ∧ OwnB w' W.heap.size v (bytesT (cutN 61 p)) ∧ Below W.heap.size W w') eP).mp (cN W))
        clear cN eP eV eH ebv HV EN CV hbv
        generalize bytesT (cutN 61 p) = bn at *
        go_wp2_with fail
        refine (CN.out _).mono ?_
        rintro e w2 ⟨v2, rfl, hown, hb2⟩
        have hconv : (convert 35 9 v2).run Tryd.prog w2 = .ok (.string (ofL bn)) w2 := hown.conv
        have hz2 := hz0.below hb2
        have hb02 := Bt hb0 hb2
        clear hz0 hb0 hb2 hown CN
        have hz3 := hz2.below ((Below.refl w2.heap.size w2).alloc (Nat.le_refl _) (.cells #[.string (ofL bn), .string ⟨#[]⟩, .bool false] 78))
        have hy3 := ItemAt.new (w := w2) (n := ofL bn) (v := ⟨#[]⟩) (b := false)
        have hb03 := hb02.alloc hb02.size (.cells #[.string (ofL bn), .string ⟨#[]⟩, .bool false] 78)
        clear hz2 hb02
        go_upto_region 8 with (fail)
        clear hconv
        generalize w2.alloc (.cells #[.string (ofL bn), .string ⟨#[]⟩, .bool false] 78) = wx at *
        generalize w2.heap.size = g at *
        obtain ⟨y0, y1, y2⟩ := hy3.cells
        go_wp2_with (refine wpList_bytes_sl rfl 9 35 5 _ rfl (ofL bn) rfl Tryd.underlying9 Tryd.underlying35 Tryd.underlying5 (by omega) ?_)
        intro v5 w5 hv5 hb5
        have hz5 := hz3.below hb5
        have hy5 := hy3.below hb5
        have hb05 := Bt hb03 hb5
        clear hz3 hy3 hb03 hb5 y0 y1 y2
        go_wp2_with fail
        refine (ref_Chars v5 (ofL bn) _ (by omega) hv5).mono ?_
        rintro e w6 ⟨hb6, h⟩
        obtain ⟨l6, a6, rfl, hn6⟩ : ∃ l a, e = .returned (.tuple #[l, .int .i64 a]) ∧ decide (a < 0) = okS bn := by
          rcases h with ⟨h, v, rfl, _⟩ | ⟨i, h, v, rfl⟩
          · exact ⟨_, _, rfl, chars_neg (v := v) (.inl ⟨h, rfl⟩)⟩
          · exact ⟨_, _, rfl, chars_neg (v := .nilIface) (.inr ⟨i, h, rfl⟩)⟩
        have hz6 := hz5.below hb6
        have hy6 := hy5.below hb6
        have hb06 := Bt hb05 hb6
        obtain ⟨y0, y1, y2⟩ := hy6.cells
        clear hz5 hy5 hb05 hb6 h hv5
        go_wp2_with (refine wpList_bytes_sl rfl 9 35 5 _ rfl ⟨#[]⟩ rfl Tryd.underlying9 Tryd.underlying35 Tryd.underlying5 (by have := hvz; omega) ?_)
        intro v7 w7 hv7 hb7
        have hz7 := hz6.below hb7
        have hy7 := hy6.below hb7
        have hb07 := Bt hb06 hb7
        clear hz6 hy6 hb06 hb7 y0 y1 y2
        go_wp2_with fail
        refine (ref_Chars v7 ⟨#[]⟩ _ (by have := hvz; omega) hv7).mono ?_
        rintro e w8 ⟨hb8, h⟩
        have ebv := EBV.out
        obtain ⟨l8, a8, rfl, hn8⟩ : ∃ l a, e = .returned (.tuple #[l, .int .i64 a]) ∧ decide (a < 0) = okS (bytesT (cutV 61 p)) := by
          rcases h with ⟨h, v, rfl, _⟩ | ⟨i, h, v, rfl⟩
          · exact ⟨_, _, rfl, chars_neg (v := v) (.inl ⟨by rw [ebv]; exact h, rfl⟩)⟩
          · exact ⟨_, _, rfl, chars_neg (v := .nilIface) (.inr ⟨i, by rw [ebv]; exact h, rfl⟩)⟩
        have hz8 := hz7.below hb8
        have hy8 := hy7.below hb8
        have hb08 := Bt hb07 hb8
        obtain ⟨y0, y1, y2⟩ := hy8.cells
        clear hz7 hy7 hb07 hb8 h hv7 ebv
        have hfin : (okS bn && okS (bytesT (cutV 61 p))) = true → itemP p = .ok ⟨ofL bn, ⟨#[]⟩, false⟩ := by
          intro h
          rw [Bool.and_eq_true] at h
          rw [HOK.out h, EBV.out, EH.out]
        have hfin2 : (okS bn && okS (bytesT (cutV 61 p))) = false → itemP p = .error (12, 0) := by
          intro h
          refine HU.out fun h' => ?_
          rw [h'.1, h'.2] at h
          cases h
        have HF := Lib.hid hfin
        have HF2 := Lib.hid hfin2
        clear HOK HU EH EBV hfin hfin2
        generalize okS (bytesT (cutV 61 p)) = ov at *
        generalize okS bn = on at *
        cases on
        · have d6 : decide (a6 < 0) = false := hn6
          go_wp2_with (refine wpList_store_item (o := ⟨none, _, _, _, _, _⟩) rfl _ _ rfl w.heap.size (ofL bn) ⟨#[]⟩ false rfl rfl ⟨#[]⟩ ⟨#[]⟩ false hz8 ?_; intro hst)
          (try simp only [Exit.inBlock, Exit.then])
          refine bodyPost_ret (results_item rfl rfl hst) rfl ?_
          exact ⟨below_setRowI hb08 (Nat.le_refl _) _, ⟨_, _, _⟩, false, rfl, fun h => (by cases h), fun _ => HF2.out rfl⟩
        · have d6 : decide (a6 < 0) = true := hn6
          go_wp2_with (refine wpList_store_item (o := ⟨none, _, _, _, _, _⟩) rfl _ _ rfl w.heap.size (ofL bn) ⟨#[]⟩ false rfl rfl ⟨#[]⟩ ⟨#[]⟩ false hz8 ?_; intro hst)
          (try simp only [Exit.inBlock, Exit.then])
          refine bodyPost_ret (results_item rfl rfl hst) rfl ?_
          refine ⟨below_setRowI hb08 (Nat.le_refl _) _, ⟨_, _, _⟩, ov, rfl, fun h => HF.out ?_, fun h => HF2.out ?_⟩
          · rw [h]; rfl
          · rw [h]; rfl
      · have HB2 := Lib.hid hb2
        have EH := Lib.hid eH
        have CN := Lib.hid (fun W => (congrArg (fun x => Calls Tryd.prog 100 #[.string x] W fun e w' => ∃ v, e = .returned v ∧ OwnB w' W.heap.size v (bytesT (cutN 61 p)) ∧ Below W.heap.size W w') EN.out).mp (cN W))
        have CV' := Lib.hid (fun W => (congrArg (fun x => Calls Tryd.prog 100 #[.string x] W fun e w' => ∃ v, e = .returned v ∧ OwnB w' W.heap.size v (bytesT (cutV 61 p)) ∧ Below W.heap.size W w') eV).mp (CV.out W))
        clear cN eV eH HV EN CV hb2
        generalize bytesT (cutN 61 p) = bn at *
        generalize bytesT (cutV 61 p) = bv at *
        have hvz := hbv
        have e1 : ((p[k].toNat : Int) != 61) = false := u8_eqN (n := 61) (by decide) (byteAt_ix hlt2 ▸ HB2.out)
        go_wp2_with fail
        refine (CN.out _).mono ?_
        rintro e w2 ⟨v2, rfl, hown, hb2⟩
        have hconv : (convert 35 9 v2).run Tryd.prog w2 = .ok (.string (ofL bn)) w2 := hown.conv
        have hz2 := hz0.below hb2
        have hb02 := Bt hb0 hb2
        clear hz0 hb0 hb2 hown CN
        have hz3 := hz2.below ((Below.refl w2.heap.size w2).alloc (Nat.le_refl _) (.cells #[.string (ofL bn), .string ⟨#[]⟩, .bool false] 78))
        have hy3 := ItemAt.new (w := w2) (n := ofL bn) (v := ⟨#[]⟩) (b := false)
        have hb03 := hb02.alloc hb02.size (.cells #[.string (ofL bn), .string ⟨#[]⟩, .bool false] 78)
        have hg0 := hb02.size
        have hg1 := hz2.lt
        clear hz2 hb02
        go_upto_region 6 with (fail)
        clear hconv
        generalize w2.alloc (.cells #[.string (ofL bn), .string ⟨#[]⟩, .bool false] 78) = wx at *
        generalize w2.heap.size = g at *
        obtain ⟨_, _, _⟩ := hy3.cells
        have f3 := hy3.frozen 2
        go_wp2_with fail
        refine (CV'.out _).mono ?_
        rintro e w4 ⟨v4, rfl, hown, hb4⟩
        have hy4 := (hy3.setHas true).below hb4
        have hz4 := (hz3.setOther (q := g) (by omega) 2 (.bool true)).below hb4
        have hb04 := (hb03.setCell (show w.heap.size ≤ (⟨g, 2, none⟩ : Addr).block from hg0) (.bool true)).trans (hb4.mono (by have := hb03.size; simpa using this))
        have hconv : (convert 35 9 v4).run Tryd.prog w4 = .ok (.string (ofL bv)) w4 := hown.conv
        have f4 := hy4.frozen 1
        obtain ⟨_, c41, _⟩ := hy4.cells
        clear hy3 hz3 hb03 f3 hown hb4 CV'
        go_upto_region 8 with (fail)
        have hy3 := hy4.setValue (ofL bv)
        have hz3 := hz4.setOther (q := g) (by omega) 1 (.string (ofL bv))
        have hb03 := hb04.setCell (show w.heap.size ≤ (⟨g, 1, none⟩ : Addr).block from hg0) (.string (ofL bv))
        clear hy4 hz4 hb04 f4 c41 hconv
        generalize w4.setCell ⟨g, 1, none⟩ (.string (ofL bv)) = wx at *
        obtain ⟨y0, y1, y2⟩ := hy3.cells
        go_wp2_with (refine wpList_bytes_sl rfl 9 35 5 _ rfl (ofL bn) rfl Tryd.underlying9 Tryd.underlying35 Tryd.underlying5 (by omega) ?_)
        intro v5 w5 hv5 hb5
        have hz5 := hz3.below hb5
        have hy5 := hy3.below hb5
        have hb05 := Bt hb03 hb5
        clear hz3 hy3 hb03 hb5 y0 y1 y2
        go_wp2_with fail
        refine (ref_Chars v5 (ofL bn) _ (by omega) hv5).mono ?_
        rintro e w6 ⟨hb6, h⟩
        obtain ⟨l6, a6, rfl, hn6⟩ : ∃ l a, e = .returned (.tuple #[l, .int .i64 a]) ∧ decide (a < 0) = okS bn := by
          rcases h with ⟨h, v, rfl, _⟩ | ⟨i, h, v, rfl⟩
          · exact ⟨_, _, rfl, chars_neg (v := v) (.inl ⟨h, rfl⟩)⟩
          · exact ⟨_, _, rfl, chars_neg (v := .nilIface) (.inr ⟨i, h, rfl⟩)⟩
        have hz6 := hz5.below hb6
        have hy6 := hy5.below hb6
        have hb06 := Bt hb05 hb6
        obtain ⟨y0, y1, y2⟩ := hy6.cells
        clear hz5 hy5 hb05 hb6 h hv5
        go_wp2_with (refine wpList_bytes_sl rfl 9 35 5 _ rfl (ofL bv) rfl Tryd.underlying9 Tryd.underlying35 Tryd.underlying5 (by have := hvz; omega) ?_)
        intro v7 w7 hv7 hb7
        have hz7 := hz6.below hb7
        have hy7 := hy6.below hb7
        have hb07 := Bt hb06 hb7
        clear hz6 hy6 hb06 hb7 y0 y1 y2
        go_wp2_with fail
        refine (ref_Chars v7 (ofL bv) _ (by have := hvz; omega) hv7).mono ?_
        rintro e w8 ⟨hb8, h⟩
        obtain ⟨l8, a8, rfl, hn8⟩ : ∃ l a, e = .returned (.tuple #[l, .int .i64 a]) ∧ decide (a < 0) = okS bv := by
          rcases h with ⟨h, v, rfl, _⟩ | ⟨i, h, v, rfl⟩
          · exact ⟨_, _, rfl, chars_neg (v := v) (.inl ⟨h, rfl⟩)⟩
          · exact ⟨_, _, rfl, chars_neg (v := .nilIface) (.inr ⟨i, h, rfl⟩)⟩
        have hz8 := hz7.below hb8
        have hy8 := hy7.below hb8
        have hb08 := Bt hb07 hb8
        obtain ⟨y0, y1, y2⟩ := hy8.cells
        clear hz7 hy7 hb07 hb8 h hv7
        have hfin : (okS bn && okS bv) = true → itemP p = .ok ⟨ofL bn, (ofL bv), true⟩ := by
          intro h
          rw [Bool.and_eq_true] at h
          rw [HOK.out h, EH.out]
        have hfin2 : (okS bn && okS bv) = false → itemP p = .error (12, 0) := by
          intro h
          refine HU.out fun h' => ?_
          rw [h'.1, h'.2] at h
          cases h
        have HF := Lib.hid hfin
        have HF2 := Lib.hid hfin2
        clear HOK HU EH hfin hfin2
        generalize okS bv = ov at *
        generalize okS bn = on at *
        cases on
        · have d6 : decide (a6 < 0) = false := hn6
          go_wp2_with (refine wpList_store_item (o := ⟨none, _, _, _, _, _⟩) rfl _ _ rfl w.heap.size (ofL bn) (ofL bv) true rfl rfl ⟨#[]⟩ ⟨#[]⟩ false hz8 ?_; intro hst)
          (try simp only [Exit.inBlock, Exit.then])
          refine bodyPost_ret (results_item rfl rfl hst) rfl ?_
          exact ⟨below_setRowI hb08 (Nat.le_refl _) _, ⟨_, _, _⟩, false, rfl, fun h => (by cases h), fun _ => HF2.out rfl⟩
        · have d6 : decide (a6 < 0) = true := hn6
          go_wp2_with (refine wpList_store_item (o := ⟨none, _, _, _, _, _⟩) rfl _ _ rfl w.heap.size (ofL bn) (ofL bv) true rfl rfl ⟨#[]⟩ ⟨#[]⟩ false hz8 ?_; intro hst)
          (try simp only [Exit.inBlock, Exit.then])
          refine bodyPost_ret (results_item rfl rfl hst) rfl ?_
          refine ⟨below_setRowI hb08 (Nat.le_refl _) _, ⟨_, _, _⟩, ov, rfl, fun h => HF.out ?_, fun h => HF2.out ?_⟩
          · rw [h]; rfl
          · rw [h]; rfl
end Go.Proofs.YtiaafljbddamhaaDoor

/- The example of chapter 16's statements. -/
namespace Go.Proofs.YtiaafljbddamhaaDoor
open Go.RowKit

theorem itemsQ_len (s : ByteArray) : (itemsQ s).1.length ≤ 256 := goG_len stepQ_right _ _ _ (Nat.zero_le _)
theorem itemsQ_empty {s : ByteArray} (h : (itemsQ s).2.1 ≠ 0) : (itemsQ s).1 = [] := goG_empty _ _ _ h
theorem itemsQ_zero {s : ByteArray} (h : (itemsQ s).2.1 = 0) : (itemsQ s).2.2 = 0 := goG_zero stepQ_right _ _ _ h
theorem ItemsOwn.nil (w : World) (a : Option Addr) : ItemsOwn w a [] := fun i p h => by simp at h
/-- Items, and an error, as query.Items gives them. -/
def QItems (s : ByteArray) (w : World) (e : Ending) (w' : World) : Prop := Below w.heap.size w w' ∧ ∃ a c v, e = .returned (.tuple #[.slice a (itemsQ s).1.length c, v]) ∧ (itemsQ s).1.length ≤ c ∧ c ≤ maxLen ∧ ItemsOwn w' a (itemsQ s).1 ∧ IsErr w' v (itemsQ s).2.1 (itemsQ s).2.2
theorem query_Items' (s : ByteArray) (w : World) (hg : Handle w) (hU : Utf8Laid w) (hs : s.size ≤ 1000000) : Calls Tryd.prog 34 #[.string s] w (QItems s w) :=
  (query_Items s w hg hU hs).mono fun e w' ⟨hb, h⟩ => by
    refine ⟨hb, ?_⟩
    rcases h with ⟨hk, v, rfl, hown⟩ | ⟨hk, v, n, rfl, hv⟩
    · obtain ⟨a, c, rfl, h1, h2, h3⟩ := hown.sl
      exact ⟨a, c, _, rfl, h1, h2, h3, .inl ⟨hk, rfl⟩⟩
    · have hn := itemsQ_empty hk
      refine ⟨none, 0, v, ?_, ?_, ?_, ?_, .inr ⟨hk, n, hv⟩⟩
      · rw [hn]; rfl
      · rw [hn]; exact Nat.le_refl _
      · unfold maxLen; omega
      · rw [hn]; exact ItemsOwn.nil _ _
theorem ItemsOwn.lit (w : World) (l : List It) (cs : Array Value) (h : cs = (itemsV l).toArray) : ItemsOwn (w.alloc (.cells cs 78)) (some ⟨w.heap.size, 0, none⟩) l := by
  subst h
  intro i p hp
  have hc : ∀ j, j < 3 → (w.alloc (.cells (itemsV l).toArray 78)).cell? ⟨w.heap.size, i * 3 + j, none⟩ = (itemC p)[j]? := fun j hj => by
    rw [World.cell?_alloc_at _ _ _ _ rfl]
    simpa using itemsV_at hp j hj
  exact ⟨w.heap.size, rfl, by simp, hc 0 (by omega), hc 1 (by omega), hc 2 (by omega)⟩
theorem sp16 : itemsQ ⟨#[97, 61, 49, 38, 38, 98, 38, 37, 54, 51, 61, 37, 54, 52]⟩ = ([⟨⟨#[97]⟩, ⟨#[49]⟩, true⟩, ⟨⟨#[98]⟩, ⟨#[]⟩, false⟩, ⟨⟨#[99]⟩, ⟨#[100]⟩, true⟩], 0, 0) := by decide +kernel
set_option maxHeartbeats 1600000 in
set_option maxRecDepth 100000 in
theorem speaks16 (w : World) (hg : Handle w) (hU : Utf8Laid w) : Calls Tryd.prog 33 #[] w fun e w' => e = .returned (.bool true) ∧ Below w.heap.size w w' := by
  have cI' : ∀ W, Handle W → Utf8Laid W → Calls Tryd.prog 34 #[.string ⟨#[97, 61, 49, 38, 38, 98, 38, 37, 54, 51, 61, 37, 54, 52]⟩] W fun e w' => Below W.heap.size W w' ∧ ∃ a c, e = .returned (.tuple #[.slice a 3 c, .nilIface]) ∧ c ≤ maxLen ∧ ItemsOwn w' a [⟨⟨#[97]⟩, ⟨#[49]⟩, true⟩, ⟨⟨#[98]⟩, ⟨#[]⟩, false⟩, ⟨⟨#[99]⟩, ⟨#[100]⟩, true⟩] := fun W h1 h2 =>
    (query_Items' ⟨#[97, 61, 49, 38, 38, 98, 38, 37, 54, 51, 61, 37, 54, 52]⟩ W h1 h2 (by decide)).mono fun e w' ⟨hb, a, c, v, he, h3, h4, h5, h6⟩ => by
      rw [sp16] at he h5 h6
      rcases h6 with ⟨_, rfl⟩ | ⟨h, _⟩
      · exact ⟨hb, a, c, he, h4, h5⟩
      · exact absurd rfl h
  have cI := Lib.hid cI'
  clear cI'
  go_enter Tryd.func33, Tryd.ntmps33
  go_wp2_with fail
  refine (cI.out _ hg hU).mono ?_
  rintro e w2 ⟨hb2, a, c, rfl, hcm, hsl⟩
  have hb3 := hb2.alloc hb2.size (.cells #[.string ⟨#[97]⟩, .string ⟨#[49]⟩, .bool true, .string ⟨#[98]⟩, .string ⟨#[]⟩, .bool false, .string ⟨#[99]⟩, .string ⟨#[100]⟩, .bool true] 78)
  have hsl3 := hsl.below ((Below.refl w2.heap.size w2).alloc (Nat.le_refl _) (.cells #[.string ⟨#[97]⟩, .string ⟨#[49]⟩, .bool true, .string ⟨#[98]⟩, .string ⟨#[]⟩, .bool false, .string ⟨#[99]⟩, .string ⟨#[100]⟩, .bool true] 78))
  have hlit := ItemsOwn.lit w2 [⟨⟨#[97]⟩, ⟨#[49]⟩, true⟩, ⟨⟨#[98]⟩, ⟨#[]⟩, false⟩, ⟨⟨#[99]⟩, ⟨#[100]⟩, true⟩] #[.string ⟨#[97]⟩, .string ⟨#[49]⟩, .bool true, .string ⟨#[98]⟩, .string ⟨#[]⟩, .bool false, .string ⟨#[99]⟩, .string ⟨#[100]⟩, .bool true] rfl
  have cS := Lib.hid (ref16_Same a c _ 3 _ _ _ hsl3 hlit (by decide) (by decide))
  clear hsl hsl3 hlit
  go_wp2_with fail
  refine cS.out.mono ?_
  rintro e w4 ⟨rfl, q, rfl⟩
  go_wp2_with fail
  go_ret
  exact ⟨rfl, below_drewN hb3 q⟩
end Go.Proofs.YtiaafljbddamhaaDoor
