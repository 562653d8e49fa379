/- quad.number, quad.checked. -/
import Derived.Test.YtameipbnobaoeaaDoorHexadMappedM5
import Derived.Test.YtameipbnobaoeaaDoorHexadMappedM3
import Derived.Deep.DeepCutAuto
import Derived.Test.YtameipbnobaoeaaDoorHexadMappedM1
import Derived.Test.YtameipbnobaoeaaDoorHexadMappedM2
import Derived.Test.YtameipbnobaoeaaDoorHexadMappedM4

namespace Go.Proofs.YtameipbnobaoeaaDoor
open Go.RowKit

theorem ret_num {a b : Int} {c d : Bool} (h1 : a = b) (h2 : c = d) : Ending.returned (.tuple #[.int .u64 a, .bool c]) = .returned (.tuple #[.int .u64 b, .bool d]) := by rw [h1, h2]
/-- A part's number, and whether it is below 2^40. -/
def NumQPost (s : ByteArray) (w : World) (e : Ending) (w' : World) : Prop := Below w.heap.size w w' ∧ e = .returned (.tuple #[.int .u64 ((if numQ s < p40 then numQ s else 0 : Nat) : Int), .bool (decide (numQ s < p40))])
theorem NumQPost.good {s : ByteArray} {w w' : World} {m : Nat} (hb : Below w.heap.size w w') (h : numQ s = m) (hm : m < 1099511627776) : NumQPost s w (.returned (.tuple #[.int .u64 (m : Int), .bool true])) w' := by
  refine ⟨hb, ?_⟩
  have hm' : m < p40 := hm
  rw [h, if_pos hm', decide_eq_true hm']
theorem NumQPost.over {s : ByteArray} {w w' : World} {m : Nat} (hb : Below w.heap.size w w') (h : m ≤ numQ s) (hm : ¬ m < 1099511627776) : NumQPost s w (.returned (.tuple #[.int .u64 0, .bool false])) w' := by
  refine ⟨hb, ?_⟩
  have : ¬ numQ s < p40 := by unfold p40; omega
  rw [if_neg this, decide_eq_false this]
  rfl
theorem numTo_succ (b : Nat) (d : ByteArray) (i : Nat) : numTo b d (i + 1) = numTo b d i * b + valN (byteAt d i).toNat := rfl
set_option maxHeartbeats 3200000 in
set_option maxRecDepth 100000 in
theorem quad_number (s : ByteArray) (hs : s.size ≤ 16777216) (hbad : badQ s = none) (w : World) : Calls Tryd.prog 53 #[.string s] w (NumQPost s w) := by
  have HVAL := Lib.hid (badQ_digits hbad)
  have cP' := fun W => quad_part s hs W
  have hds : (digsQ s).size ≤ 16777216 := by unfold digsQ; rw [ByteArray.size_extract]; omega
  have hnum : numQ s = numTo (formQ s).1 (digsQ s) (digsQ s).size := rfl
  have hgood := fun w' m hb h hm => @NumQPost.good s w w' m hb h hm
  have hover := fun w' m hb h hm => @NumQPost.over s w w' m hb h hm
  rw [hnum] at hgood hover
  have hthree := formQ_three s
  clear hbad hnum
  generalize digsQ s = d at *
  rcases hthree with ⟨_, hf, _⟩ | ⟨_, _, hf, _⟩ | ⟨_, _, hf⟩
  · rw [hf] at cP' HVAL hgood hover
    simp only at cP' HVAL hgood hover
    clear hf
    have cP := Lib.hid cP'
    have HG := Lib.hid hgood
    have HO := Lib.hid hover
    clear cP' hgood hover
    go_enter Tryd.func53, Tryd.ntmps53
    go_wp2_with fail
    refine (cP.out _).mono ?_
    rintro e w2 ⟨rfl, rfl⟩
    unfold hexQ
    go_wp2_with fail
    go_loopw [2, 24] (fun n x wr => ∃ i m : Nat, i ≤ d.size ∧ x = .int .i64 i ∧ n = .int .u64 m ∧ m = numTo 16 d i ∧ m < 1099511627776 ∧ Below w.heap.size w wr) (fun _ x _ => d.size - (intOf x).toNat)
    case atStart => exact ⟨0, 0, Nat.zero_le _, rfl, rfl, rfl, by omega, Below.refl _ _⟩
    case round =>
      obtain ⟨i, m, hil, rfl, rfl, hm, hm40, hbr⟩ := hrel
      have hm40I : (m : Int) < 1099511627776 := by omega
      have HM40 := Lib.hid hm40
      clear hm40
      by_cases hlt : i < d.size
      · have hv := HVAL.out i hlt
        have hext := extract_one hlt
        have hst := numTo_succ 16 d i
        rw [← hm] at hst
        have hmono := @numTo_le 16 d (by omega) (i + 1) d.size hlt
        rw [hst] at hmono
        have hone := num_one (byteAt d i) (by omega)
        have cH := Lib.hid (fun W => fold_Hex (ofL [byteAt d i]) 15 W (by rw [ofL_size]; simp) (by omega))
        generalize valN (byteAt d i).toNat = v at *
        generalize ofL [byteAt d i] = q at *
        have HST := Lib.hid hst
        have HM := Lib.hid hmono
        have HONE := Lib.hid hone
        have hltI : (i : Int) < (d.size : Int) := by omega
        clear hm hst hmono hone
        go_wp2_with fail
        refine (cH.out _).mono ?_
        rintro e w3 hp
        obtain ⟨rfl, hb3⟩ := hp.right HONE.out
        have hb13 := Bt hbr hb3
        clear hp hext
        dsimp only
        by_cases hov : m * 16 + v < 1099511627776
        · have dov : decide ((1099511627776 : Int) ≤ (m : Int) * 16 + (v : Int)) = false := decide_eq_false (by omega)
          have HOV := Lib.hid hov
          clear hov
          go_upto_region 13 with (fail)
          clear hm40I
          go_wp2_with fail
          go_roundw
          case rel => exact ⟨i + 1, m * 16 + v, by omega, by go_num, by go_num, HST.out.symm, HOV.out, hb13⟩
          case measure => simp [intOf]; omega
        · have dov : decide ((1099511627776 : Int) ≤ (m : Int) * 16 + (v : Int)) = true := decide_eq_true (by omega)
          have HOV := Lib.hid hov
          clear hov
          go_upto_region 13 with (fail)
          clear hm40I
          go_wp2_with fail
          go_ret2
          exact HO.out _ _ hb13 HM.out HOV.out
      · obtain rfl : i = d.size := by omega
        have HM := Lib.hid hm.symm
        clear hm
        go_wp2_with fail
        go_ret2
        exact HG.out _ _ hbr HM.out HM40.out
  · rw [hf] at cP' HVAL hgood hover
    simp only at cP' HVAL hgood hover
    clear hf
    have cP := Lib.hid cP'
    have HG := Lib.hid hgood
    have HO := Lib.hid hover
    clear cP' hgood hover
    go_enter Tryd.func53, Tryd.ntmps53
    go_wp2_with fail
    refine (cP.out _).mono ?_
    rintro e w2 ⟨rfl, rfl⟩
    unfold octQ
    go_wp2_with fail
    go_loopw [2, 24] (fun n x wr => ∃ i m : Nat, i ≤ d.size ∧ x = .int .i64 i ∧ n = .int .u64 m ∧ m = numTo 8 d i ∧ m < 1099511627776 ∧ Below w.heap.size w wr) (fun _ x _ => d.size - (intOf x).toNat)
    case atStart => exact ⟨0, 0, Nat.zero_le _, rfl, rfl, rfl, by omega, Below.refl _ _⟩
    case round =>
      obtain ⟨i, m, hil, rfl, rfl, hm, hm40, hbr⟩ := hrel
      have hm40I : (m : Int) < 1099511627776 := by omega
      have HM40 := Lib.hid hm40
      clear hm40
      by_cases hlt : i < d.size
      · have hv := HVAL.out i hlt
        have hext := extract_one hlt
        have hst := numTo_succ 8 d i
        rw [← hm] at hst
        have hmono := @numTo_le 8 d (by omega) (i + 1) d.size hlt
        rw [hst] at hmono
        have hone := num_one (byteAt d i) (by omega)
        have cH := Lib.hid (fun W => fold_Hex (ofL [byteAt d i]) 15 W (by rw [ofL_size]; simp) (by omega))
        generalize valN (byteAt d i).toNat = v at *
        generalize ofL [byteAt d i] = q at *
        have HST := Lib.hid hst
        have HM := Lib.hid hmono
        have HONE := Lib.hid hone
        have hltI : (i : Int) < (d.size : Int) := by omega
        clear hm hst hmono hone
        go_wp2_with fail
        refine (cH.out _).mono ?_
        rintro e w3 hp
        obtain ⟨rfl, hb3⟩ := hp.right HONE.out
        have hb13 := Bt hbr hb3
        clear hp hext
        dsimp only
        by_cases hov : m * 8 + v < 1099511627776
        · have dov : decide ((1099511627776 : Int) ≤ (m : Int) * 8 + (v : Int)) = false := decide_eq_false (by omega)
          have HOV := Lib.hid hov
          clear hov
          go_upto_region 13 with (fail)
          clear hm40I
          go_wp2_with fail
          go_roundw
          case rel => exact ⟨i + 1, m * 8 + v, by omega, by go_num, by go_num, HST.out.symm, HOV.out, hb13⟩
          case measure => simp [intOf]; omega
        · have dov : decide ((1099511627776 : Int) ≤ (m : Int) * 8 + (v : Int)) = true := decide_eq_true (by omega)
          have HOV := Lib.hid hov
          clear hov
          go_upto_region 13 with (fail)
          clear hm40I
          go_wp2_with fail
          go_ret2
          exact HO.out _ _ hb13 HM.out HOV.out
      · obtain rfl : i = d.size := by omega
        have HM := Lib.hid hm.symm
        clear hm
        go_wp2_with fail
        go_ret2
        exact HG.out _ _ hbr HM.out HM40.out
  · rw [hf] at cP' HVAL hgood hover
    simp only at cP' HVAL hgood hover
    clear hf
    have cP := Lib.hid cP'
    have HG := Lib.hid hgood
    have HO := Lib.hid hover
    clear cP' hgood hover
    go_enter Tryd.func53, Tryd.ntmps53
    go_wp2_with fail
    refine (cP.out _).mono ?_
    rintro e w2 ⟨rfl, rfl⟩
    unfold decQ
    go_wp2_with fail
    go_loopw [2, 24] (fun n x wr => ∃ i m : Nat, i ≤ d.size ∧ x = .int .i64 i ∧ n = .int .u64 m ∧ m = numTo 10 d i ∧ m < 1099511627776 ∧ Below w.heap.size w wr) (fun _ x _ => d.size - (intOf x).toNat)
    case atStart => exact ⟨0, 0, Nat.zero_le _, rfl, rfl, rfl, by omega, Below.refl _ _⟩
    case round =>
      obtain ⟨i, m, hil, rfl, rfl, hm, hm40, hbr⟩ := hrel
      have hm40I : (m : Int) < 1099511627776 := by omega
      have HM40 := Lib.hid hm40
      clear hm40
      by_cases hlt : i < d.size
      · have hv := HVAL.out i hlt
        have hext := extract_one hlt
        have hst := numTo_succ 10 d i
        rw [← hm] at hst
        have hmono := @numTo_le 10 d (by omega) (i + 1) d.size hlt
        rw [hst] at hmono
        have hone := num_one (byteAt d i) (by omega)
        have cH := Lib.hid (fun W => fold_Hex (ofL [byteAt d i]) 15 W (by rw [ofL_size]; simp) (by omega))
        generalize valN (byteAt d i).toNat = v at *
        generalize ofL [byteAt d i] = q at *
        have HST := Lib.hid hst
        have HM := Lib.hid hmono
        have HONE := Lib.hid hone
        have hltI : (i : Int) < (d.size : Int) := by omega
        clear hm hst hmono hone
        go_wp2_with fail
        refine (cH.out _).mono ?_
        rintro e w3 hp
        obtain ⟨rfl, hb3⟩ := hp.right HONE.out
        have hb13 := Bt hbr hb3
        clear hp hext
        dsimp only
        by_cases hov : m * 10 + v < 1099511627776
        · have dov : decide ((1099511627776 : Int) ≤ (m : Int) * 10 + (v : Int)) = false := decide_eq_false (by omega)
          have HOV := Lib.hid hov
          clear hov
          go_upto_region 13 with (fail)
          clear hm40I
          go_wp2_with fail
          go_roundw
          case rel => exact ⟨i + 1, m * 10 + v, by omega, by go_num, by go_num, HST.out.symm, HOV.out, hb13⟩
          case measure => simp [intOf]; omega
        · have dov : decide ((1099511627776 : Int) ≤ (m : Int) * 10 + (v : Int)) = true := decide_eq_true (by omega)
          have HOV := Lib.hid hov
          clear hov
          go_upto_region 13 with (fail)
          clear hm40I
          go_wp2_with fail
          go_ret2
          exact HO.out _ _ hb13 HM.out HOV.out
      · obtain rfl : i = d.size := by omega
        have HM := Lib.hid hm.symm
        clear hm
        go_wp2_with fail
        go_ret2
        exact HG.out _ _ hbr HM.out HM40.out

def CheckedPost (s : ByteArray) (at_ : Nat) (w : World) (e : Ending) (w' : World) : Prop := Below w.heap.size w w' ∧ ((badQ s = none ∧ e = .returned .nilIface) ∨ (∃ k j, badQ s = some (k, j) ∧ (k = 10 ∨ k = 11) ∧ ∃ v, e = .returned v ∧ IsFault w' v (k : Int) ((at_ + j : Nat) : Int)))
theorem badQ_out {s : ByteArray} {i : Nat} (h0 : s.size ≠ 0) (h : firstOut (digsQ s) (formQ s).2.2 = some i) : badQ s = some (11, (formQ s).2.1 + i) := by unfold badQ; rw [if_neg h0, h]
theorem badQ_no {s : ByteArray} (h0 : s.size ≠ 0) (h : firstOut (digsQ s) (formQ s).2.2 = none) : badQ s = none := by unfold badQ; rw [if_neg h0, h]
theorem badQ_empty {s : ByteArray} (h0 : s.size = 0) : badQ s = some (10, 0) := by unfold badQ; rw [if_pos h0]
theorem skip_le (s : ByteArray) : (formQ s).2.1 ≤ 2 := by
  rcases formQ_three s with ⟨_, h, _⟩ | ⟨_, _, h, _⟩ | ⟨_, _, h⟩ <;> rw [h] <;> simp
set_option maxHeartbeats 1600000 in
set_option maxRecDepth 100000 in
theorem quad_checked (s : ByteArray) (at_ : Nat) (hs : s.size ≤ 16777216) (ha : at_ ≤ 1073741824) (w : World) : Calls Tryd.prog 52 #[.string s, .int .i64 (at_ : Int)] w (CheckedPost s at_ w) := by
  by_cases h0 : s.size = 0
  · have HB := Lib.hid (badQ_empty h0)
    have he : s.toList.isEmpty = true := isEmpty_yes h0
    clear h0
    go_enter Tryd.func52, Tryd.ntmps52
    go_wp2_with fail
    refine (api_Fail' 10 at_ _).mono ?_
    rintro e w1 ⟨v, rfl, hv, hb⟩
    go_wp2_with fail
    go_ret
    exact ⟨hb, .inr ⟨10, 0, HB.out, .inl rfl, v, rfl, hv⟩⟩
  · have he : s.toList.isEmpty = false := isEmpty_no (by omega)
    have HO := Lib.hid (fun i h => @badQ_out s i h0 h)
    have HN := Lib.hid (fun h => @badQ_no s h0 h)
    have hsk := skip_le s
    have cP := Lib.hid (fun W => quad_part s hs W)
    have hds : (digsQ s).size ≤ 16777216 := by unfold digsQ; rw [ByteArray.size_extract]; omega
    generalize (formQ s).2.1 = k at *
    generalize (formQ s).2.2 = m at *
    generalize digsQ s = d at *
    clear h0
    go_enter Tryd.func52, Tryd.ntmps52
    go_wp2_with fail
    refine (cP.out _).mono ?_
    rintro e w2 ⟨rfl, rfl⟩
    go_wp2_with fail
    go_loopw [21] (fun x wr => ∃ i : Nat, i ≤ d.size ∧ x = .int .i64 i ∧ (∀ j, j < i → hasB m (byteAt d j) = true) ∧ Below w.heap.size w wr) (fun x _ => d.size - (intOf x).toNat)
    case atStart => exact ⟨0, Nat.zero_le _, rfl, fun j hj => by omega, Below.refl _ _⟩
    case round =>
      obtain ⟨i, hil, rfl, hall, hbr⟩ := hrel
      have HA := Lib.hid hall
      clear hall
      by_cases hlt : i < d.size
      · have hb := byteAt_idx hlt
        have hix := index_has m (byteAt d i)
        have hcall := fun W => Tryd.strings_IndexByte m ((byteAt d i).toNat : Int) W
        have hcc : ((((byteAt d i).toNat : Int)).toNat.toUInt8) = byteAt d i := by simp
        rw [hcc] at hcall
        have HC := Lib.hid hcall
        have hsome := fun h => firstOut_some (m := m) hlt HA.out h
        have HSOME := Lib.hid hsome
        have hnext : hasB m (byteAt d i) = true → ∀ j, j < i + 1 → hasB m (byteAt d j) = true := fun h j hj => by
          by_cases hji : j = i
          · rw [hji]; exact h
          · exact HA.out j (by omega)
        have HNEXT := Lib.hid hnext
        have HB := Lib.hid hb
        have hltI : (i : Int) < (d.size : Int) := by omega
        clear hcall hcc hsome hnext
        generalize Lib.indexByte m.data.toList (byteAt d i) = ix at *
        rcases hix with ⟨k1, k2⟩ | ⟨k1, k2⟩
        · have HK := Lib.hid (HNEXT.out k1)
          clear k1
          go_wp2_with fail
          refine (HC.out _).mono ?_
          rintro e w3 ⟨rfl, rfl⟩
          clear hb
          go_wp2_with fail
          go_roundw
          case rel => exact ⟨i + 1, by omega, by go_num, HK.out, hbr⟩
          case measure => simp [intOf]; omega
        · have HK := Lib.hid (HO.out _ (HSOME.out k1))
          clear k1
          go_wp2_with fail
          refine (HC.out _).mono ?_
          rintro e w3 ⟨rfl, rfl⟩
          clear hb
          go_wp2_with fail
          refine (api_Fail' 11 (at_ + k + i) _).mono ?_
          rintro e w4 ⟨v, rfl, hv, hb4⟩
          go_wp2_with fail
          go_ret
          exact ⟨Bt hbr hb4, .inr ⟨11, k + i, HK.out, .inr rfl, v, rfl, by rw [← Nat.add_assoc]; simpa using hv⟩⟩
      · obtain rfl : i = d.size := by omega
        have HK := Lib.hid (HN.out (firstOut_none HA.out))
        go_wp2_with fail
        go_ret
        exact ⟨hbr, .inl ⟨HK.out, rfl⟩⟩
end Go.Proofs.YtameipbnobaoeaaDoor

/- The reference's digit and Number: they are what fold.number tells. -/
namespace Go.Proofs.YtameipbnobaoeaaDoor
open Go.RowKit

/-- The digits' list of the reference. -/
def hexs : ByteArray := ⟨#[48, 49, 50, 51, 52, 53, 54, 55, 56, 57, 97, 98, 99, 100, 101, 102]⟩
theorem hexs_find (n : Nat) (hn : n < 256) : (∀ k, k < 16 → ((hexs.data.toList.getD k 0).toNat = smallN n ↔ valN n = k)) ∧ (valN n < 16 ∨ valN n = 99) := by
  have : ∀ n : Fin 256, (∀ k : Fin 16, ((hexs.data.toList.getD k.1 0).toNat = smallN n.1 ↔ valN n.1 = k.1)) ∧ (valN n.1 < 16 ∨ valN n.1 = 99) := by decide +kernel
  have h := this ⟨n, hn⟩
  exact ⟨fun k hk => h.1 ⟨k, hk⟩, h.2⟩

theorem numRes_none {s : ByteArray} (base most : Nat) (h0 : s.size = 0) : numRes s base most = (0, 10, 0) := by rw [numRes, if_pos h0]
theorem numRes_bad {s : ByteArray} {base i : Nat} (most : Nat) (hi : i < s.size) (h : ∀ j, j < i → valN (byteAt s j).toNat < base) (hb : base ≤ valN (byteAt s i).toNat) : numRes s base most = (0, 11, i) := by
  rw [numRes, if_neg (by omega), firstBad_some hi h hb]
theorem numRes_over {s : ByteArray} {base most : Nat} (h0 : 0 < s.size) (h : ∀ j, j < s.size → valN (byteAt s j).toNat < base) (ho : 18446744073709551616 ≤ numTo base s s.size ∨ most < numTo base s s.size) : numRes s base most = (0, 16, 0) := by
  rw [numRes, if_neg (by omega), firstBad_none h]; exact if_pos ho
theorem numRes_good {s : ByteArray} {base most : Nat} (h0 : 0 < s.size) (h : ∀ j, j < s.size → valN (byteAt s j).toNat < base) (ho : ¬ (18446744073709551616 ≤ numTo base s s.size ∨ most < numTo base s s.size)) : numRes s base most = (numTo base s s.size, 0, 0) := by
  rw [numRes, if_neg (by omega), firstBad_none h]; exact if_neg ho

def RefNum (s : ByteArray) (base most : Nat) (w : World) (e : Ending) (w' : World) : Prop :=
  e = .returned (.tuple #[.int .u64 ((numRes s base most).1 : Int), .int .i64 ((numRes s base most).2.1 : Int), .int .i64 ((numRes s base most).2.2 : Int)]) ∧ ∃ q, w.drewN q = w'
theorem RefNum.mk' {s : ByteArray} {base most n k i : Nat} {w w' : World} (h : numRes s base most = (n, k, i)) {a b c : Int} (ha : a = n) (hb : b = k) (hc : c = i) (hw : ∃ q, w.drewN q = w') :
    RefNum s base most w (.returned (.tuple #[.int .u64 a, .int .i64 b, .int .i64 c])) w' := by
  refine ⟨?_, hw⟩
  rw [h, ha, hb, hc]

/-- The state of the reference's loop. -/
def RefSt (base : Nat) (s : ByteArray) (k n : Nat) (o : Bool) : Prop := NumSt base s k n o ∧ (o = true → n = 0)
theorem RefSt.over {base : Nat} {s : ByteArray} {k n : Nat} {o : Bool} (hb : 1 ≤ base) (h : RefSt base s k n o) (hd : valN (byteAt s k).toNat < base) (ho : o = true ∨ 18446744073709551615 < n * base + valN (byteAt s k).toNat) :
    RefSt base s (k + 1) 0 true := by
  obtain ⟨⟨e1, e2, e3⟩, e4⟩ := h
  have hle : numTo base s k ≤ numTo base s (k + 1) := numTo_le base s hb (Nat.le_succ k)
  have hbig : 18446744073709551616 ≤ numTo base s (k + 1) := by
    rcases ho with ho | ho
    · rw [ho] at e1
      have : 18446744073709551616 ≤ numTo base s k := by simpa using e1.symm
      omega
    · by_cases hx : 18446744073709551616 ≤ numTo base s k
      · omega
      · have hn := e2 (by omega)
        rw [numTo, ← hn]
        omega
  refine ⟨⟨by rw [decide_eq_true hbig], fun h => by omega, fun j hj => ?_⟩, fun _ => rfl⟩
  by_cases hjk : j = k
  · subst hjk; exact hd
  · exact e3 j (by omega)
theorem RefSt.fits {base : Nat} {s : ByteArray} {k n : Nat} (h : RefSt base s k n false) (hd : valN (byteAt s k).toNat < base) (ho : n * base + valN (byteAt s k).toNat ≤ 18446744073709551615) :
    RefSt base s (k + 1) (n * base + valN (byteAt s k).toNat) false := by
  obtain ⟨⟨e1, e2, e3⟩, e4⟩ := h
  have hx : ¬ 18446744073709551616 ≤ numTo base s k := by simpa using e1.symm
  have hn := e2 (by omega)
  have he : numTo base s (k + 1) = n * base + valN (byteAt s k).toNat := by rw [numTo, hn]
  refine ⟨⟨?_, fun _ => he.symm, fun j hj => ?_⟩, fun h => by cases h⟩
  · rw [he, decide_eq_false (by omega)]
  · by_cases hjk : j = k
    · subst hjk; exact hd
    · exact e3 j (by omega)

theorem ref_over {m base d : Nat} (hb : 2 ≤ base) (h : 18446744073709551615 < m * base + d) : (18446744073709551615 - (d : Int)) / (base : Int) < (m : Int) := by
  refine Int.ediv_lt_of_lt_mul (by omega) ?_
  have : (18446744073709551615 : Int) < ((m * base + d : Nat) : Int) := by omega
  rw [Int.natCast_add, Int.natCast_mul] at this
  omega
theorem ref_fits2 {m base d : Nat} (h : m * base + d ≤ 18446744073709551615) : (m : Int) * (base : Int) + (d : Int) ≤ 18446744073709551615 := by
  have : ((m * base + d : Nat) : Int) ≤ 18446744073709551615 := by omega
  rw [Int.natCast_add, Int.natCast_mul] at this
  exact this
theorem ref_fits {m base d : Nat} (hb : 2 ≤ base) (h : m * base + d ≤ 18446744073709551615) : (m : Int) ≤ (18446744073709551615 - (d : Int)) / (base : Int) := by
  refine Int.le_ediv_of_mul_le (by omega) ?_
  have := ref_fits2 h
  omega

end Go.Proofs.YtameipbnobaoeaaDoor

/- The reference's hexed, base, power, number of chapter 11. -/
namespace Go.Proofs.YtameipbnobaoeaaDoor
open Go.RowKit

theorem pow_le5 {i : Nat} (h : i ≤ 5) : 256 ^ i ≤ 1099511627776 := by
  have : 256 ^ i ≤ 256 ^ 5 := Nat.pow_le_pow_right (by omega) h
  omega
end Go.Proofs.YtameipbnobaoeaaDoor

/- The reference's All. -/
namespace Go.Proofs.YtameipbnobaoeaaDoor
open Go.RowKit

end Go.Proofs.YtameipbnobaoeaaDoor

/- quad.Numeric, and the reference's. -/
namespace Go.Proofs.YtameipbnobaoeaaDoor
open Go.RowKit

/-- Behind which place the last point stands: 0: there is none. -/
def lastTo (s : ByteArray) : Nat → Nat
  | 0 => 0
  | k + 1 => if byteAt s k = 46 then k + 1 else lastTo s k
theorem lastTo_le (s : ByteArray) (k : Nat) : lastTo s k ≤ k := by
  induction k with
  | zero => exact Nat.le_refl _
  | succ k ih => unfold lastTo; split <;> omega
theorem lastTo_yes {s : ByteArray} {k : Nat} (h : byteAt s k = 46) : lastTo s (k + 1) = k + 1 := by rw [lastTo, if_pos h]
theorem lastTo_no {s : ByteArray} {k : Nat} (h : ¬ byteAt s k = 46) : lastTo s (k + 1) = lastTo s k := by rw [lastTo, if_neg h]
def lastS (s : ByteArray) : ByteArray := s.extract (lastTo s s.size) s.size
def numericB (s : ByteArray) : Bool := if hexedB (lastS (cutP s)) = true then allB ((lastS (cutP s)).extract 2 (lastS (cutP s)).size) hexQ else (!decide ((lastS (cutP s)).size = 0) && allB (lastS (cutP s)) decQ)
theorem lastS_size (s : ByteArray) : (lastS s).size ≤ s.size := by unfold lastS; rw [ByteArray.size_extract]; omega
end Go.Proofs.YtameipbnobaoeaaDoor

/- Plain facts: parts that are joined by a mark that stands in none of them are cut as they were. -/
namespace Go.Proofs.YtameipbnobaoeaaDoor

/-- The parts that are shut, and the one that is open, behind a text. -/
def cutStep (mark : UInt8) (d : List (List UInt8) × List UInt8) (c : UInt8) : List (List UInt8) × List UInt8 := if c = mark then (d.1 ++ [d.2], []) else (d.1, d.2 ++ [c])
def cutJ (mark : UInt8) (l : List UInt8) : List (List UInt8) × List UInt8 := l.foldl (cutStep mark) ([], [])

theorem cutJ_append (mark : UInt8) (a b : List UInt8) : cutJ mark (a ++ b) = b.foldl (cutStep mark) (cutJ mark a) := List.foldl_append
theorem fold_free (mark : UInt8) (p : List UInt8) (h : ∀ c, c ∈ p → c ≠ mark) (d : List (List UInt8) × List UInt8) : p.foldl (cutStep mark) d = (d.1, d.2 ++ p) := by
  induction p generalizing d with
  | nil => simp
  | cons c r ih =>
    have hc : c ≠ mark := h c (by simp)
    rw [List.foldl_cons, ih (fun x hx => h x (by simp [hx]))]
    simp [cutStep, hc]

theorem map_inj_of {α β : Type} {f : α → β} (hf : ∀ a b, f a = f b → a = b) {l m : List α} (h : l.map f = m.map f) : l = m := by
  induction l generalizing m with
  | nil => cases m <;> simp_all
  | cons a r ih =>
    cases m with
    | nil => simp at h
    | cons b q =>
      simp only [List.map_cons, List.cons.injEq] at h
      rw [hf a b h.1, ih h.2]

theorem cutAt_cutL (s : ByteArray) (mark : UInt8) (k : Nat) (hk : k ≤ s.size) :
    (cutAt s mark k).1.map (·.data.toList) = (cutJ mark (s.data.toList.take k)).1 ∧ (s.data.toList.take k).drop (cutAt s mark k).2 = (cutJ mark (s.data.toList.take k)).2 := by
  induction k with
  | zero => simp [cutAt, cutJ]
  | succ k ih =>
    obtain ⟨h1, h2⟩ := ih (by omega)
    have hl : s.data.toList.length = s.size := rfl
    have ht : s.data.toList.take (k + 1) = s.data.toList.take k ++ [byteAt s k] := by
      rw [List.take_succ_eq_append_getElem (by omega)]
      simp [byteAt, List.getD, hl, show k < s.size from hk]
    have hle := (cutAt_le s mark k).2
    rw [ht, cutJ_append]
    simp only [List.foldl_cons, List.foldl_nil]
    by_cases hc : byteAt s k = mark
    · rw [cutAt, if_pos hc, cutStep, if_pos hc]
      refine ⟨?_, ?_⟩
      · simp only [List.map_append, List.map_cons, List.map_nil, h1]
        congr 2
        rw [Lib.extract_data, ← h2, List.drop_take]
      · simp [hl]
        omega
    · rw [cutAt, if_neg hc, cutStep, if_neg hc]
      refine ⟨h1, ?_⟩
      rw [List.drop_append_of_le_length (by simp [hl]; omega), h2]

/-- The parts that are joined. -/
def joinTo (l : List ByteArray) (mark : UInt8) : Nat → ByteArray
  | 0 => ByteArray.empty
  | k + 1 => if k = 0 then ByteArray.empty ++ l.getD 0 ByteArray.empty else joinTo l mark k ++ ⟨#[mark]⟩ ++ l.getD k ByteArray.empty

theorem joinTo_one (l : List ByteArray) (mark : UInt8) : joinTo l mark 1 = joinTo l mark 0 ++ l.getD 0 ByteArray.empty := rfl
theorem joinTo_more (l : List ByteArray) (mark : UInt8) (k : Nat) (h : 0 < k) : joinTo l mark (k + 1) = joinTo l mark k ++ ⟨#[mark]⟩ ++ l.getD k ByteArray.empty := by
  rw [joinTo, if_neg (by omega)]
theorem hasB_mem {s : ByteArray} {c : UInt8} (h : hasB s c = false) : ∀ x, x ∈ s.data.toList → x ≠ c := by
  intro x hx e
  subst e
  obtain ⟨i, hi, he⟩ := List.getElem_of_mem hx
  have := hasB_yes (s := s) (c := x) (k := i) hi (by simp only [byteAt, List.getD]; rw [List.getElem?_eq_getElem hi, he]; rfl)
  rw [h] at this
  cases this

theorem joinTo_cut (l : List ByteArray) (mark : UInt8) (n : Nat) (hn : n ≤ l.length) (h1 : 1 ≤ n) (h : ∀ j, j < n → hasB (l.getD j ByteArray.empty) mark = false) :
    cutJ mark (joinTo l mark n).data.toList = ((l.take (n - 1)).map (·.data.toList), (l.getD (n - 1) ByteArray.empty).data.toList) := by
  induction n with
  | zero => omega
  | succ k ih =>
    by_cases hk : k = 0
    · subst hk
      rw [joinTo, if_pos rfl, data_append]
      have he : (ByteArray.empty).data.toList = [] := rfl
      rw [he, List.nil_append]
      unfold cutJ
      rw [fold_free mark _ (hasB_mem (h 0 (by omega)))]
      simp
    · rw [joinTo, if_neg hk, data_append, data_append]
      rw [cutJ_append, cutJ_append, ih (by omega) (by omega) (fun j hj => h j (by omega)), fold_free mark _ (hasB_mem (h k (by omega)))]
      have hm : (⟨#[mark]⟩ : ByteArray).data.toList = [mark] := rfl
      rw [hm]
      simp only [List.foldl_cons, List.foldl_nil, cutStep, if_true, List.nil_append, Nat.add_sub_cancel]
      congr 1
      have hlt : k - 1 < l.length := by omega
      have e2 : k = (k - 1) + 1 := by omega
      conv => rhs; rw [e2]
      rw [List.take_succ_eq_append_getElem hlt, List.map_append]
      simp [List.getD, hlt]

theorem joinTo_size (l : List ByteArray) (mark : UInt8) (n : Nat) (h : ∀ j, j < n → (l.getD j ByteArray.empty).size ≤ 200) : (joinTo l mark n).size ≤ 201 * n := by
  induction n with
  | zero => simp [joinTo]
  | succ k ih =>
    have := ih (fun j hj => h j (by omega))
    have h2 := h k (by omega)
    rw [joinTo]
    split
    · next h0 => subst h0; rw [ByteArray.size_append]; have : ByteArray.empty.size = 0 := rfl; omega
    · rw [ByteArray.size_append, ByteArray.size_append]
      have : (⟨#[mark]⟩ : ByteArray).size = 1 := rfl
      omega

theorem joined_parts (l : List ByteArray) (mark : UInt8) (n : Nat) (hn : l.length = n) (h1 : 1 ≤ n) (h : ∀ j, j < n → hasB (l.getD j ByteArray.empty) mark = false) :
    (cutAt (joinTo l mark n) mark (joinTo l mark n).size).1 ++ [(joinTo l mark n).extract (cutAt (joinTo l mark n) mark (joinTo l mark n).size).2 (joinTo l mark n).size] = l ∧
      (cutAt (joinTo l mark n) mark (joinTo l mark n).size).1.length = n - 1 := by
  have hc := joinTo_cut l mark n (by omega) h1 h
  generalize joinTo l mark n = s at *
  obtain ⟨e1, e2⟩ := cutAt_cutL s mark s.size (Nat.le_refl _)
  have ht : s.data.toList.take s.size = s.data.toList := List.take_of_length_le (Nat.le_refl _)
  rw [ht, hc] at e1 e2
  have e3 : (cutAt s mark s.size).1 = l.take (n - 1) := by
    exact map_inj_of (fun a b h => ba_ext h) e1
  have e4 : s.extract (cutAt s mark s.size).2 s.size = l.getD (n - 1) ByteArray.empty := by
    apply ba_ext
    rw [Lib.extract_data, List.take_of_length_le (by simp), e2]
  have hlt : n - 1 < l.length := by omega
  rw [e4, e3]
  refine ⟨?_, by simp; omega⟩
  have : l.getD (n - 1) ByteArray.empty = l[n - 1] := by simp [List.getD, hlt]
  rw [this, ← List.take_succ_eq_append_getElem hlt]
  exact List.take_of_length_le (by omega)
end Go.Proofs.YtameipbnobaoeaaDoor
