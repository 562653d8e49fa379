/- quad.number, quad.checked. -/
import Derived.Test.YtpaeloadmjblpaaDoorQuadParts
import Derived.Test.YtpaeloadmjblpaaDoorUnder
import Derived.Deep.DeepCutAuto
namespace Go.Proofs.YtpaeloadmjblpaaDoor
open Go.RowKit

theorem ret_num {a b : Int} {c d : Bool} (h1 : a = b) (h2 : c = d) : Ending.returned (.tuple #[.int .u64 a, .bool c]) = .returned (.tuple #[.int .u64 b, .bool d]) := by rw [h1, h2]
/-- A part's number, and whether it is below 2^40. -/
def NumQPost (s : ByteArray) (w : World) (e : Ending) (w' : World) : Prop := Below w.heap.size w w' ∧ e = .returned (.tuple #[.int .u64 ((if numQ s < p40 then numQ s else 0 : Nat) : Int), .bool (decide (numQ s < p40))])
theorem NumQPost.good {s : ByteArray} {w w' : World} {m : Nat} (hb : Below w.heap.size w w') (h : numQ s = m) (hm : m < 1099511627776) : NumQPost s w (.returned (.tuple #[.int .u64 (m : Int), .bool true])) w' := by
  refine ⟨hb, ?_⟩
  have hm' : m < p40 := hm
  rw [h, if_pos hm', decide_eq_true hm']
theorem NumQPost.over {s : ByteArray} {w w' : World} {m : Nat} (hb : Below w.heap.size w w') (h : m ≤ numQ s) (hm : ¬ m < 1099511627776) : NumQPost s w (.returned (.tuple #[.int .u64 0, .bool false])) w' := by
  refine ⟨hb, ?_⟩
  have : ¬ numQ s < p40 := by unfold p40; omega
  rw [if_neg this, decide_eq_false this]
  rfl
theorem numTo_succ (b : Nat) (d : ByteArray) (i : Nat) : numTo b d (i + 1) = numTo b d i * b + valN (byteAt d i).toNat := rfl
set_option maxHeartbeats 3200000 in
set_option maxRecDepth 100000 in
theorem quad_number (s : ByteArray) (hs : s.size ≤ 16777216) (hbad : badQ s = none) (w : World) : Calls Tryd.prog 22 #[.string s] w (NumQPost s w) := by
  have HVAL := Lib.hid (badQ_digits hbad)
  have cP' := fun W => quad_part s hs W
  have hds : (digsQ s).size ≤ 16777216 := by unfold digsQ; rw [ByteArray.size_extract]; omega
  have hnum : numQ s = numTo (formQ s).1 (digsQ s) (digsQ s).size := rfl
  have hgood := fun w' m hb h hm => @NumQPost.good s w w' m hb h hm
  have hover := fun w' m hb h hm => @NumQPost.over s w w' m hb h hm
  rw [hnum] at hgood hover
  have hthree := formQ_three s
  clear hbad hnum
  generalize digsQ s = d at *
  rcases hthree with ⟨_, hf, _⟩ | ⟨_, _, hf, _⟩ | ⟨_, _, hf⟩
  · rw [hf] at cP' HVAL hgood hover
    simp only at cP' HVAL hgood hover
    clear hf
    have cP := Lib.hid cP'
    have HG := Lib.hid hgood
    have HO := Lib.hid hover
    clear cP' hgood hover
    go_enter Tryd.func22, Tryd.ntmps22
    go_wp2_with fail
    refine (cP.out _).mono ?_
    rintro e w2 ⟨rfl, rfl⟩
    unfold hexQ
    go_wp2_with fail
    go_loopw [2, 24] (fun n x wr => ∃ i m : Nat, i ≤ d.size ∧ x = .int .i64 i ∧ n = .int .u64 m ∧ m = numTo 16 d i ∧ m < 1099511627776 ∧ Below w.heap.size w wr) (fun _ x _ => d.size - (intOf x).toNat)
    case atStart => exact ⟨0, 0, Nat.zero_le _, rfl, rfl, rfl, by omega, Below.refl _ _⟩
    case round =>
      obtain ⟨i, m, hil, rfl, rfl, hm, hm40, hbr⟩ := hrel
      have hm40I : (m : Int) < 1099511627776 := by omega
      have HM40 := Lib.hid hm40
      clear hm40
      by_cases hlt : i < d.size
      · have hv := HVAL.out i hlt
        have hext := extract_one hlt
        have hst := numTo_succ 16 d i
        rw [← hm] at hst
        have hmono := @numTo_le 16 d (by omega) (i + 1) d.size hlt
        rw [hst] at hmono
        have hone := num_one (byteAt d i) (by omega)
        have cH := Lib.hid (fun W => fold_Hex (ofL [byteAt d i]) 15 W (by rw [ofL_size]; simp) (by omega))
        generalize valN (byteAt d i).toNat = v at *
        generalize ofL [byteAt d i] = q at *
        have HST := Lib.hid hst
        have HM := Lib.hid hmono
        have HONE := Lib.hid hone
        have hltI : (i : Int) < (d.size : Int) := by omega
        clear hm hst hmono hone
        go_wp2_with fail
        refine (cH.out _).mono ?_
        rintro e w3 hp
        obtain ⟨rfl, hb3⟩ := hp.right HONE.out
        have hb13 := Bt hbr hb3
        clear hp hext
        dsimp only
        by_cases hov : m * 16 + v < 1099511627776
        · have dov : decide ((1099511627776 : Int) ≤ (m : Int) * 16 + (v : Int)) = false := decide_eq_false (by omega)
          have HOV := Lib.hid hov
          clear hov
          go_upto_region 13 with (fail)
          clear hm40I
          go_wp2_with fail
          go_roundw
          case rel => exact ⟨i + 1, m * 16 + v, by omega, by go_num, by go_num, HST.out.symm, HOV.out, hb13⟩
          case measure => simp [intOf]; omega
        · have dov : decide ((1099511627776 : Int) ≤ (m : Int) * 16 + (v : Int)) = true := decide_eq_true (by omega)
          have HOV := Lib.hid hov
          clear hov
          go_upto_region 13 with (fail)
          clear hm40I
          go_wp2_with fail
          go_ret2
          exact HO.out _ _ hb13 HM.out HOV.out
      · obtain rfl : i = d.size := by omega
        have HM := Lib.hid hm.symm
        clear hm
        go_wp2_with fail
        go_ret2
        exact HG.out _ _ hbr HM.out HM40.out
  · rw [hf] at cP' HVAL hgood hover
    simp only at cP' HVAL hgood hover
    clear hf
    have cP := Lib.hid cP'
    have HG := Lib.hid hgood
    have HO := Lib.hid hover
    clear cP' hgood hover
    go_enter Tryd.func22, Tryd.ntmps22
    go_wp2_with fail
    refine (cP.out _).mono ?_
    rintro e w2 ⟨rfl, rfl⟩
    unfold octQ
    go_wp2_with fail
    go_loopw [2, 24] (fun n x wr => ∃ i m : Nat, i ≤ d.size ∧ x = .int .i64 i ∧ n = .int .u64 m ∧ m = numTo 8 d i ∧ m < 1099511627776 ∧ Below w.heap.size w wr) (fun _ x _ => d.size - (intOf x).toNat)
    case atStart => exact ⟨0, 0, Nat.zero_le _, rfl, rfl, rfl, by omega, Below.refl _ _⟩
    case round =>
      obtain ⟨i, m, hil, rfl, rfl, hm, hm40, hbr⟩ := hrel
      have hm40I : (m : Int) < 1099511627776 := by omega
      have HM40 := Lib.hid hm40
      clear hm40
      by_cases hlt : i < d.size
      · have hv := HVAL.out i hlt
        have hext := extract_one hlt
        have hst := numTo_succ 8 d i
        rw [← hm] at hst
        have hmono := @numTo_le 8 d (by omega) (i + 1) d.size hlt
        rw [hst] at hmono
        have hone := num_one (byteAt d i) (by omega)
        have cH := Lib.hid (fun W => fold_Hex (ofL [byteAt d i]) 15 W (by rw [ofL_size]; simp) (by omega))
        generalize valN (byteAt d i).toNat = v at *
        generalize ofL [byteAt d i] = q at *
        have HST := Lib.hid hst
        have HM := Lib.hid hmono
        have HONE := Lib.hid hone
        have hltI : (i : Int) < (d.size : Int) := by omega
        clear hm hst hmono hone
        go_wp2_with fail
        refine (cH.out _).mono ?_
        rintro e w3 hp
        obtain ⟨rfl, hb3⟩ := hp.right HONE.out
        have hb13 := Bt hbr hb3
        clear hp hext
        dsimp only
        by_cases hov : m * 8 + v < 1099511627776
        · have dov : decide ((1099511627776 : Int) ≤ (m : Int) * 8 + (v : Int)) = false := decide_eq_false (by omega)
          have HOV := Lib.hid hov
          clear hov
          go_upto_region 13 with (fail)
          clear hm40I
          go_wp2_with fail
          go_roundw
          case rel => exact ⟨i + 1, m * 8 + v, by omega, by go_num, by go_num, HST.out.symm, HOV.out, hb13⟩
          case measure => simp [intOf]; omega
        · have dov : decide ((1099511627776 : Int) ≤ (m : Int) * 8 + (v : Int)) = true := decide_eq_true (by omega)
          have HOV := Lib.hid hov
          clear hov
          go_upto_region 13 with (fail)
          clear hm40I
          go_wp2_with fail
          go_ret2
          exact HO.out _ _ hb13 HM.out HOV.out
      · obtain rfl : i = d.size := by omega
        have HM := Lib.hid hm.symm
        clear hm
        go_wp2_with fail
        go_ret2
        exact HG.out _ _ hbr HM.out HM40.out
  · rw [hf] at cP' HVAL hgood hover
    simp only at cP' HVAL hgood hover
    clear hf
    have cP := Lib.hid cP'
    have HG := Lib.hid hgood
    have HO := Lib.hid hover
    clear cP' hgood hover
    go_enter Tryd.func22, Tryd.ntmps22
    go_wp2_with fail
    refine (cP.out _).mono ?_
    rintro e w2 ⟨rfl, rfl⟩
    unfold decQ
    go_wp2_with fail
    go_loopw [2, 24] (fun n x wr => ∃ i m : Nat, i ≤ d.size ∧ x = .int .i64 i ∧ n = .int .u64 m ∧ m = numTo 10 d i ∧ m < 1099511627776 ∧ Below w.heap.size w wr) (fun _ x _ => d.size - (intOf x).toNat)
    case atStart => exact ⟨0, 0, Nat.zero_le _, rfl, rfl, rfl, by omega, Below.refl _ _⟩
    case round =>
      obtain ⟨i, m, hil, rfl, rfl, hm, hm40, hbr⟩ := hrel
      have hm40I : (m : Int) < 1099511627776 := by omega
      have HM40 := Lib.hid hm40
      clear hm40
      by_cases hlt : i < d.size
      · have hv := HVAL.out i hlt
        have hext := extract_one hlt
        have hst := numTo_succ 10 d i
        rw [← hm] at hst
        have hmono := @numTo_le 10 d (by omega) (i + 1) d.size hlt
        rw [hst] at hmono
        have hone := num_one (byteAt d i) (by omega)
        have cH := Lib.hid (fun W => fold_Hex (ofL [byteAt d i]) 15 W (by rw [ofL_size]; simp) (by omega))
        generalize valN (byteAt d i).toNat = v at *
        generalize ofL [byteAt d i] = q at *
        have HST := Lib.hid hst
        have HM := Lib.hid hmono
        have HONE := Lib.hid hone
        have hltI : (i : Int) < (d.size : Int) := by omega
        clear hm hst hmono hone
        go_wp2_with fail
        refine (cH.out _).mono ?_
        rintro e w3 hp
        obtain ⟨rfl, hb3⟩ := hp.right HONE.out
        have hb13 := Bt hbr hb3
        clear hp hext
        dsimp only
        by_cases hov : m * 10 + v < 1099511627776
        · have dov : decide ((1099511627776 : Int) ≤ (m : Int) * 10 + (v : Int)) = false := decide_eq_false (by omega)
          have HOV := Lib.hid hov
          clear hov
          go_upto_region 13 with (fail)
          clear hm40I
          go_wp2_with fail
          go_roundw
          case rel => exact ⟨i + 1, m * 10 + v, by omega, by go_num, by go_num, HST.out.symm, HOV.out, hb13⟩
          case measure => simp [intOf]; omega
        · have dov : decide ((1099511627776 : Int) ≤ (m : Int) * 10 + (v : Int)) = true := decide_eq_true (by omega)
          have HOV := Lib.hid hov
          clear hov
          go_upto_region 13 with (fail)
          clear hm40I
          go_wp2_with fail
          go_ret2
          exact HO.out _ _ hb13 HM.out HOV.out
      · obtain rfl : i = d.size := by omega
        have HM := Lib.hid hm.symm
        clear hm
        go_wp2_with fail
        go_ret2
        exact HG.out _ _ hbr HM.out HM40.out

def CheckedPost (s : ByteArray) (at_ : Nat) (w : World) (e : Ending) (w' : World) : Prop := Below w.heap.size w w' ∧ ((badQ s = none ∧ e = .returned .nilIface) ∨ (∃ k j, badQ s = some (k, j) ∧ (k = 10 ∨ k = 11) ∧ ∃ v, e = .returned v ∧ IsFault w' v (k : Int) ((at_ + j : Nat) : Int)))
theorem badQ_out {s : ByteArray} {i : Nat} (h0 : s.size ≠ 0) (h : firstOut (digsQ s) (formQ s).2.2 = some i) : badQ s = some (11, (formQ s).2.1 + i) := by unfold badQ; rw [if_neg h0, h]
theorem badQ_no {s : ByteArray} (h0 : s.size ≠ 0) (h : firstOut (digsQ s) (formQ s).2.2 = none) : badQ s = none := by unfold badQ; rw [if_neg h0, h]
theorem badQ_empty {s : ByteArray} (h0 : s.size = 0) : badQ s = some (10, 0) := by unfold badQ; rw [if_pos h0]
theorem skip_le (s : ByteArray) : (formQ s).2.1 ≤ 2 := by
  rcases formQ_three s with ⟨_, h, _⟩ | ⟨_, _, h, _⟩ | ⟨_, _, h⟩ <;> rw [h] <;> simp
set_option maxHeartbeats 1600000 in
set_option maxRecDepth 100000 in
theorem quad_checked (s : ByteArray) (at_ : Nat) (hs : s.size ≤ 16777216) (ha : at_ ≤ 1073741824) (w : World) : Calls Tryd.prog 21 #[.string s, .int .i64 (at_ : Int)] w (CheckedPost s at_ w) := by
  by_cases h0 : s.size = 0
  · have HB := Lib.hid (badQ_empty h0)
    have he : s.toList.isEmpty = true := isEmpty_yes h0
    clear h0
    go_enter Tryd.func21, Tryd.ntmps21
    go_wp2_with fail
    refine (api_Fail' 10 at_ _).mono ?_
    rintro e w1 ⟨v, rfl, hv, hb⟩
    go_wp2_with fail
    go_ret
    exact ⟨hb, .inr ⟨10, 0, HB.out, .inl rfl, v, rfl, hv⟩⟩
  · have he : s.toList.isEmpty = false := isEmpty_no (by omega)
    have HO := Lib.hid (fun i h => @badQ_out s i h0 h)
    have HN := Lib.hid (fun h => @badQ_no s h0 h)
    have hsk := skip_le s
    have cP := Lib.hid (fun W => quad_part s hs W)
    have hds : (digsQ s).size ≤ 16777216 := by unfold digsQ; rw [ByteArray.size_extract]; omega
    generalize (formQ s).2.1 = k at *
    generalize (formQ s).2.2 = m at *
    generalize digsQ s = d at *
    clear h0
    go_enter Tryd.func21, Tryd.ntmps21
    go_wp2_with fail
    refine (cP.out _).mono ?_
    rintro e w2 ⟨rfl, rfl⟩
    go_wp2_with fail
    go_loopw [21] (fun x wr => ∃ i : Nat, i ≤ d.size ∧ x = .int .i64 i ∧ (∀ j, j < i → hasB m (byteAt d j) = true) ∧ Below w.heap.size w wr) (fun x _ => d.size - (intOf x).toNat)
    case atStart => exact ⟨0, Nat.zero_le _, rfl, fun j hj => by omega, Below.refl _ _⟩
    case round =>
      obtain ⟨i, hil, rfl, hall, hbr⟩ := hrel
      have HA := Lib.hid hall
      clear hall
      by_cases hlt : i < d.size
      · have hb := byteAt_idx hlt
        have hix := index_has m (byteAt d i)
        have hcall := fun W => Tryd.strings_IndexByte m ((byteAt d i).toNat : Int) W
        have hcc : ((((byteAt d i).toNat : Int)).toNat.toUInt8) = byteAt d i := by simp
        rw [hcc] at hcall
        have HC := Lib.hid hcall
        have hsome := fun h => firstOut_some (m := m) hlt HA.out h
        have HSOME := Lib.hid hsome
        have hnext : hasB m (byteAt d i) = true → ∀ j, j < i + 1 → hasB m (byteAt d j) = true := fun h j hj => by
          by_cases hji : j = i
          · rw [hji]; exact h
          · exact HA.out j (by omega)
        have HNEXT := Lib.hid hnext
        have HB := Lib.hid hb
        have hltI : (i : Int) < (d.size : Int) := by omega
        clear hcall hcc hsome hnext
        generalize Lib.indexByte m.data.toList (byteAt d i) = ix at *
        rcases hix with ⟨k1, k2⟩ | ⟨k1, k2⟩
        · have HK := Lib.hid (HNEXT.out k1)
          clear k1
          go_wp2_with fail
          refine (HC.out _).mono ?_
          rintro e w3 ⟨rfl, rfl⟩
          clear hb
          go_wp2_with fail
          go_roundw
          case rel => exact ⟨i + 1, by omega, by go_num, HK.out, hbr⟩
          case measure => simp [intOf]; omega
        · have HK := Lib.hid (HO.out _ (HSOME.out k1))
          clear k1
          go_wp2_with fail
          refine (HC.out _).mono ?_
          rintro e w3 ⟨rfl, rfl⟩
          clear hb
          go_wp2_with fail
          refine (api_Fail' 11 (at_ + k + i) _).mono ?_
          rintro e w4 ⟨v, rfl, hv, hb4⟩
          go_wp2_with fail
          go_ret
          exact ⟨Bt hbr hb4, .inr ⟨11, k + i, HK.out, .inr rfl, v, rfl, by rw [← Nat.add_assoc]; simpa using hv⟩⟩
      · obtain rfl : i = d.size := by omega
        have HK := Lib.hid (HN.out (firstOut_none HA.out))
        go_wp2_with fail
        go_ret
        exact ⟨hbr, .inl ⟨HK.out, rfl⟩⟩
end Go.Proofs.YtpaeloadmjblpaaDoor
