/- puny.threshold, digit, right, number. -/
import Derived.Test.YtbonnmkkacplgaaGreatDoorLabelNamesM4
import Derived.Test.YtbonnmkkacplgaaGreatDoorLabelNamesM5
import Derived.Test.YtbonnmkkacplgaaGreatDoorLabelNamesM6
import Derived.BigQuiet
import Derived.Test.YtbonnmkkacplgaaGreatDoorLabelNamesM1

namespace Go.Proofs.YtbonnmkkacplgaaGreatDoor
open Go.RowKit

theorem thr_int (k b : Nat) : min (max ((k : Int) - (b : Int)) 1) 26 = ((thrN k b : Nat) : Int) := by unfold thrN; omega
set_option maxHeartbeats 800000 in
theorem puny_threshold (k b : Nat) (w : World) (hk : k ≤ 1000000) (hb : b ≤ 1000000000000) :
    Calls Tryz.prog 93 #[.int .i64 (k : Int), .int .i64 (b : Int)] w fun e w' => e = .returned (.int .i64 ((thrN k b : Nat) : Int)) ∧ w = w' := by
  have HT := Lib.hid (thr_int k b)
  generalize thrN k b = t at *
  go_enter Tryz.func93, Tryz.ntmps93
  go_wp2_with fail
  go_ret
  exact ⟨by rw [← HT.out]; try simp, rfl⟩
theorem dig_int (n : Nat) (h : n < 36) : ((digN n).toNat : Int) = if (n : Int) < 26 then 97 + (n : Int) else 22 + (n : Int) := by
  unfold digN
  by_cases h1 : n < 26
  · rw [if_pos h1, if_pos (by omega), UInt8.toNat_ofNat_of_lt' (show 97 + n < 256 by omega)]; simp
  · rw [if_neg h1, if_neg (by omega), UInt8.toNat_ofNat_of_lt' (show 22 + n < 256 by omega)]; simp
set_option maxHeartbeats 800000 in
theorem puny_digit (n : Nat) (w : World) (h : n < 36) :
    Calls Tryz.prog 94 #[.int .i64 (n : Int)] w fun e w' => e = .returned (.int .u8 ((digN n).toNat : Int)) ∧ w = w' := by
  have hd := dig_int n h
  by_cases h1 : (n : Int) < 26
  · rw [if_pos h1] at hd
    have HD := Lib.hid (congrArg (fun x => Ending.returned (.int .u8 x)) hd)
    clear hd
    go_enter Tryz.func94, Tryz.ntmps94
    go_wp2_with fail
    go_ret
    exact ⟨HD.out.symm, rfl⟩
  · rw [if_neg h1] at hd
    have HD := Lib.hid (congrArg (fun x => Ending.returned (.int .u8 x)) hd)
    clear hd
    go_enter Tryz.func94, Tryz.ntmps94
    go_wp2_with fail
    go_ret
    refine ⟨?_, rfl⟩
    rw [HD.out]
    show Ending.returned (.int .u8 (48 + (n : Int) - 26)) = _
    rw [show 48 + (n : Int) - 26 = 22 + (n : Int) by omega]
set_option maxHeartbeats 800000 in
theorem puny_right (n : Int) (w : World) : Calls Tryz.prog 60 #[.int .i64 n] w fun e w' => e = .returned (.bool (rightB n)) ∧ Below w.heap.size w w' := by
  have cP := Lib.hid (utf_Put n w)
  go_enter Tryz.func60, Tryz.ntmps60
  go_wp2_with fail
  refine cP.out.mono ?_
  rintro e w2 ⟨hb2, h⟩
  rcases h with ⟨hr, v, rfl, _⟩ | ⟨hr, v, rfl, hv⟩
  · have HR := Lib.hid hr
    go_wp2_with fail
    go_ret
    exact ⟨ret_bool HR.out.symm, hb2⟩
  · have HR := Lib.hid hr
    obtain ⟨q, rfl⟩ := hv.ne_nil
    clear hv
    go_wp2_with fail
    go_ret
    exact ⟨ret_bool HR.out.symm, hb2⟩
theorem sub_div_int {m t : Nat} (h : t ≤ m) (ht : t ≤ 26) : (((m - t) / (36 - t) : Nat) : Int) = ((m : Int) - (t : Int)) / (36 - (t : Int)) ∧ (((m - t) % (36 - t) : Nat) : Int) = ((m : Int) - (t : Int)) % (36 - (t : Int)) := by
  have h1 : ((m - t : Nat) : Int) = (m : Int) - t := by omega
  have h2 : ((36 - t : Nat) : Int) = 36 - (t : Int) := by omega
  constructor
  · rw [Int.natCast_ediv, h1, h2]
  · rw [Int.natCast_emod, h1, h2]
set_option maxHeartbeats 3200000 in
set_option maxRecDepth 100000 in
theorem puny_number (B b G : Nat) (l : List UInt8) (n bias : Nat) (w : World) (h : BldG w B b G l) (hlen : l.length ≤ 1000000) (hBw : B ≤ w.heap.size) (hn : n < 1000000000) (hb : bias ≤ 1000000000000) :
    Calls Tryz.prog 66 #[.pointer (some ⟨b, 0, none⟩), .int .i64 (n : Int), .int .i64 (bias : Int)] w fun e w' => e = .returned (.tuple #[]) ∧ BldG w' B b G (l ++ numD n bias) ∧ ButG B b G w w' := by
  have hlen2 := numD_len (b := bias) hn
  have HD := Lib.hid (show numD n bias = numL n n 36 bias from rfl)
  generalize numD n bias = D at *
  go_enter Tryz.func66, Tryz.ntmps66
  go_wp2_with fail
  go_loopw [1, 6] (fun x y wr => ∃ (f m k : Nat) (acc : List UInt8), x = .int .i64 m ∧ y = .int .i64 k ∧ m ≤ f ∧ m ≤ n ∧ k = 36 * (acc.length + 1) ∧ acc ++ numL f m k bias = D ∧ BldG wr B b G (l ++ acc) ∧ ButG B b G w wr) (fun x _ _ => (intOf x).toNat)
  case atStart => exact ⟨n, n, 36, [], rfl, rfl, Nat.le_refl _, Nat.le_refl _, rfl, HD.out.symm, by rw [List.append_nil]; exact h, ButG.refl _ _ _ _⟩
  case round =>
    obtain ⟨f, m, k, acc, rfl, rfl, hmf, hmn, hk, hacc, hbl, hbu⟩ := hrel
    have hal : acc.length ≤ 10 := by
      have := congrArg List.length hacc
      rw [List.length_append] at this
      omega
    have hk2 : k ≤ 1000000 := by omega
    have cT := Lib.hid (puny_threshold k bias wr hk2 hb)
    have ht := thrN_range k bias
    have hsz := Nat.le_trans hBw hbu.1.size
    have HBU := Lib.hid hbu
    have HBL := Lib.hid hbl
    have HK := Lib.hid hk
    clear hk
    by_cases hlt : m < thrN k bias
    · rw [numL_last hlt] at hacc
      have HA := Lib.hid hacc
      generalize thrN k bias = t at *
      have hltI : (m : Int) < (t : Int) := by omega
      have cG := Lib.hid (puny_digit m wr (by omega))
      have cW := Lib.hid (bldG_WriteByte B b G (l ++ acc) (digN m) wr hbl (by rw [List.length_append]; omega) hsz)
      generalize digN m = dg at *
      clear hacc hbu hbl hlt h
      go_wp2_with fail
      refine cT.out.mono ?_
      rintro e w2 ⟨rfl, rfl⟩
      go_wp2_with fail
      refine cG.out.mono ?_
      rintro e w2 ⟨rfl, rfl⟩
      go_wp2_with fail
      refine cW.out.mono ?_
      rintro e w2 ⟨rfl, hb2, hbu2⟩
      go_wp2_with fail
      first | go_end0 | (simp only [Exit.inBlock, Exit.then]; refine bodyPost_ret (results_none rfl _ _ _) rfl ?_) | refine bodyPost_ret (results_none rfl _ _ _) rfl ?_
      exact ⟨rfl, by rw [← HA.out, ← List.append_assoc]; exact hb2, HBU.out.trans hbu2⟩
    · obtain ⟨f', rfl⟩ : ∃ f', f = f' + 1 := ⟨f - 1, by omega⟩
      have hless := num_less hlt
      rw [numL_more hlt] at hacc
      obtain ⟨e1, e2⟩ := sub_div_int (m := m) (t := thrN k bias) (by omega) ht.2
      have hmod : (m - thrN k bias) % (36 - thrN k bias) < 36 - thrN k bias := Nat.mod_lt _ (by omega)
      generalize thrN k bias = t at *
      have hdg : t + (m - t) % (36 - t) < 36 := by omega
      have hltI : ¬ (m : Int) < (t : Int) := by omega
      have cG := Lib.hid (puny_digit (t + (m - t) % (36 - t)) wr hdg)
      have cW := Lib.hid (bldG_WriteByte B b G (l ++ acc) (digN (t + (m - t) % (36 - t))) wr hbl (by rw [List.length_append]; omega) hsz)
      have hdc : wrap64 ((t : Int) + ((m : Int) - (t : Int)) % (36 - (t : Int))) = ((t + (m - t) % (36 - t) : Nat) : Int) := by
        rw [← e2, wrap64_inA _ (by omega) (by omega)]; simp
      generalize t + (m - t) % (36 - t) = dd at *
      generalize digN dd = dg at *
      generalize (m - t) / (36 - t) = q at *
      generalize (m - t) % (36 - t) = rr at *
      have HA := Lib.hid hacc
      have HE1 := Lib.hid e1
      have HDC := Lib.hid hdc
      clear hacc hbu hbl hlt h e1 e2 hdc
      go_wp2_with fail
      refine cT.out.mono ?_
      rintro e w2 ⟨rfl, rfl⟩
      go_wp2_with fail
      rw [HDC.out]
      refine cG.out.mono ?_
      rintro e w2 ⟨rfl, rfl⟩
      go_wp2_with fail
      refine cW.out.mono ?_
      rintro e w2 ⟨rfl, hb2, hbu2⟩
      go_wp2_with fail
      rw [← HE1.out]
      go_roundw
      case rel => exact ⟨f', q, k + 36, acc ++ [dg], rfl, by simp, by omega, by omega, by have := HK.out; simp; omega, by rw [List.append_assoc]; exact HA.out, by rw [← List.append_assoc]; exact hb2, HBU.out.trans hbu2⟩
      case measure => simp [intOf]; omega
end Go.Proofs.YtbonnmkkacplgaaGreatDoor

/- puny.value, puny.reader.number. -/
namespace Go.Proofs.YtbonnmkkacplgaaGreatDoor
open Go.RowKit

def valO (o : Option Nat) : Value := .tuple #[.int .i64 ((o.getD 0 : Nat) : Int), .bool o.isSome]
set_option maxHeartbeats 1600000 in
theorem puny_value (c : UInt8) (w : World) : Calls Tryz.prog 128 #[.int .u8 (c.toNat : Int)] w fun e w' => e = .returned (valO (valN c)) ∧ w' = w := by
  have hc : c.toNat < 256 := c.toNat_lt
  unfold valN
  generalize c.toNat = n at *
  by_cases h1 : 65 ≤ n ∧ n ≤ 90
  · rw [if_pos h1]
    have HV := Lib.hid (show valO (some (n - 65)) = .tuple #[.int .i64 ((n : Int) - 65), .bool true] by unfold valO; simp; omega)
    obtain ⟨a1, a2⟩ := h1
    go_enter Tryz.func128, Tryz.ntmps128
    go_wp2_with fail
    go_ret2
    refine ⟨?_, rfl⟩
    rw [HV.out]
    show Ending.returned (.tuple #[.int .i64 ((n : Int) + 32 - 97), .bool true]) = _
    rw [show (n : Int) + 32 - 97 = (n : Int) - 65 by omega]
  rw [if_neg h1]
  by_cases h2 : 97 ≤ n ∧ n ≤ 122
  · rw [if_pos h2]
    have HV := Lib.hid (show valO (some (n - 97)) = .tuple #[.int .i64 ((n : Int) - 97), .bool true] by unfold valO; simp; omega)
    obtain ⟨a1, a2⟩ := h2
    have a3 : ¬ n ≤ 90 := by omega
    clear h1
    go_enter Tryz.func128, Tryz.ntmps128
    go_wp2_with fail
    go_ret2
    exact ⟨by rw [HV.out]; first | rfl | (simp; omega), rfl⟩
  rw [if_neg h2]
  by_cases h3 : 48 ≤ n ∧ n ≤ 57
  · rw [if_pos h3]
    have HV := Lib.hid (show valO (some (n - 48 + 26)) = .tuple #[.int .i64 ((n : Int) - 48 + 26), .bool true] by unfold valO; simp; omega)
    obtain ⟨a1, a2⟩ := h3
    have a3 : ¬ 65 ≤ n := by omega
    have a4 : ¬ 97 ≤ n := by omega
    clear h1 h2
    go_enter Tryz.func128, Tryz.ntmps128
    go_wp2_with fail
    go_ret2
    exact ⟨by rw [HV.out]; first | rfl | (simp; omega), rfl⟩
  · rw [if_neg h3]
    have HV := Lib.hid (show valO none = .tuple #[.int .i64 0, .bool false] from rfl)
    have hs : n < 48 ∨ (57 < n ∧ n < 65) ∨ (90 < n ∧ n < 97) ∨ 122 < n := by omega
    clear h1 h2 h3
    rcases hs with h | ⟨h, h'⟩ | ⟨h, h'⟩ | h
    all_goals
      go_enter Tryz.func128, Tryz.ntmps128
      go_wp2_with fail
      go_ret2
      exact ⟨by rw [HV.out]; rfl, rfl⟩
/-- A reader in memory: the text, the place, the bias. -/
def RdP (w : World) (p : Nat) (s : ByteArray) (a b : Nat) : Prop := w.heap[p]? = some (.cells #[.string s, .int .i64 (a : Int), .int .i64 (b : Int)] 133 (0, 0))
theorem RdP.cells {w : World} {p a b : Nat} {s : ByteArray} (h : RdP w p s a b) : w.cell? ⟨p, 0, none⟩ = some (.string s) ∧ w.cell? ⟨p, 1, none⟩ = some (.int .i64 (a : Int)) ∧ w.cell? ⟨p, 2, none⟩ = some (.int .i64 (b : Int)) := by
  unfold RdP at h
  refine ⟨?_, ?_, ?_⟩
  · rw [cell_of_row w p 0 _ _ _ h]; rfl
  · rw [cell_of_row w p 1 _ _ _ h]; rfl
  · rw [cell_of_row w p 2 _ _ _ h]; rfl
theorem RdP.frozen {w : World} {p a b : Nat} {s : ByteArray} (h : RdP w p s a b) (j : Nat) : w.frozen? ⟨p, j, none⟩ = false := by unfold RdP at h; simp [World.frozen?, h]
theorem RdP.setA {w : World} {p a b : Nat} {s : ByteArray} (h : RdP w p s a b) (a' : Nat) : RdP (w.setCell ⟨p, 1, none⟩ (.int .i64 (a' : Int))) p s a' b := by
  unfold RdP at h ⊢; simp [World.setCell, Array.getElem?_modify, h]
theorem RdP.setB {w : World} {p a b : Nat} {s : ByteArray} (h : RdP w p s a b) (b' : Nat) : RdP (w.setCell ⟨p, 2, none⟩ (.int .i64 (b' : Int))) p s a b' := by
  unfold RdP at h ⊢; simp [World.setCell, Array.getElem?_modify, h]
theorem RdP.below {w w' : World} {p a b : Nat} {s : ByteArray} (h : RdP w p s a b) (hb : Below w.heap.size w w') : RdP w' p s a b := (hb.block p (lt_of_block h)).trans h
theorem RdP.drewN {w : World} {p a b : Nat} {s : ByteArray} (h : RdP w p s a b) (m : Nat) : RdP (w.drewN m) p s a b := h
theorem grown_set {w w' : World} {p : Nat} (h : w.grownBy w' (some p)) (j : Nat) (u : Value) : w.grownBy (w'.setCell ⟨p, j, none⟩ u) (some p) :=
  ⟨h.os, h.tape, h.output, by simpa [World.setCell] using h.size, fun k hk hne => (Below.heap_setCell w' _ u k (fun e => hne (by rw [e]))).trans (h.block k hk hne)⟩
theorem grown_trans {w w1 w2 : World} {r : Option Nat} (h : w.grownBy w1 r) (k : w1.grownBy w2 r) : w.grownBy w2 r :=
  ⟨k.os.trans h.os, k.tape.trans h.tape, k.output.trans h.output, Nat.le_trans h.size k.size, fun i hi hne => (k.block i (Nat.lt_of_lt_of_le hi h.size) hne).trans (h.block i hi hne)⟩
theorem grown_drewN {w w1 : World} {r : Option Nat} (h : w.grownBy w1 r) (m : Nat) : w.grownBy (w1.drewN m) r := ⟨h.os, h.tape, h.output, h.size, h.block⟩
theorem grown_self (w : World) (r : Option Nat) : w.grownBy w r := ⟨rfl, rfl, rfl, Nat.le_refl _, fun _ _ _ => rfl⟩
/-- What reading a number leaves. -/
def RdPost (p : Nat) (s : ByteArray) (a b : Nat) (w : World) (e : Ending) (w' : World) : Prop := w.grownBy w' (some p) ∧
  ((∃ k j : Nat, ∃ v, rdN s a b = .error (k, j) ∧ k ≠ 0 ∧ e = .returned (.tuple #[.int .i64 0, v]) ∧ IsFault w' v k j) ∨ ∃ i t : Nat, rdN s a b = .ok (i, t) ∧ e = .returned (.tuple #[.int .i64 (i : Int), .nilIface]) ∧ RdP w' p s t b)
theorem mul_le_max {d w : Nat} (h1 : d < 36) (h2 : w ≤ 2147483647) : d * w ≤ 36 * 2147483647 := Nat.mul_le_mul (by omega) h2
theorem quo_int (n d w : Nat) (hn : n ≤ 2147483647) (hw : 1 ≤ w) : ((d : Int) > (2147483647 - (n : Int)) / (w : Int)) ↔ 2147483647 < n + d * w := by
  have e : (2147483647 - (n : Int)) / (w : Int) = (((2147483647 - n) / w : Nat) : Int) := by
    rw [Int.natCast_ediv]; congr 1; omega
  rw [e]
  have h := Nat.div_lt_iff_lt_mul (x := 2147483647 - n) (y := d) (k := w) (by omega)
  constructor
  · intro h1
    have := h.1 (by omega)
    omega
  · intro h1
    have := h.2 (by omega)
    omega
theorem wide_int (w t : Nat) (h1 : 1 ≤ t) (h2 : t ≤ 26) : ((w : Int) > 2147483647 / (36 - (t : Int))) ↔ 2147483647 < w * (36 - t) := by
  have e : 2147483647 / (36 - (t : Int)) = ((2147483647 / (36 - t) : Nat) : Int) := by
    rw [Int.natCast_ediv]; congr 1; omega
  rw [e]
  have h := Nat.div_lt_iff_lt_mul (x := 2147483647) (y := w) (k := 36 - t) (by omega)
  constructor
  · intro h3; exact h.1 (by omega)
  · intro h3; have := h.2 h3; omega
end Go.Proofs.YtbonnmkkacplgaaGreatDoor

/- puny.reader.number. -/
namespace Go.Proofs.YtbonnmkkacplgaaGreatDoor
open Go.RowKit

set_option maxHeartbeats 6400000 in
set_option maxRecDepth 100000 in
theorem reader_number (p a0 b : Nat) (s : ByteArray) (w : World) (hr : RdP w p s a0 b) (hs : s.size ≤ 1024) (ha : a0 ≤ s.size) (hb : b ≤ 1000000000000) :
    Calls Tryz.prog 103 #[.pointer (some ⟨p, 0, none⟩)] w (RdPost p s a0 b w) := by
  have HR := Lib.hid (show rdN s a0 b = rdF s b (s.size - a0) a0 0 1 36 from rfl)
  have hkk := fun e j => rdF_kind s b (s.size - a0) a0 0 1 36 e j
  have hbd := fun i t => rdF_bounds s b (s.size - a0) a0 0 1 36 i t
  rw [← HR.out] at hkk hbd
  have HKK := Lib.hid hkk
  generalize hRR : rdN s a0 b = R at *
  have HRR := Lib.hid hRR
  clear hkk hbd hRR
  have HRD := Lib.hid hr
  clear hr
  go_enter Tryz.func103, Tryz.ntmps103
  go_wp2_with fail
  go_loopw [2, 4, 5] (fun x y z wr => ∃ a n v k : Nat, x = .int .i64 n ∧ y = .int .i64 v ∧ z = .int .i64 k ∧ a ≤ s.size ∧ k = 36 + 36 * (a - a0) ∧ a0 ≤ a ∧ n ≤ 2147483647 ∧ 1 ≤ v ∧ v ≤ 2147483647 ∧ rdF s b (s.size - a) a n v k = R ∧ RdP wr p s a b ∧ w.grownBy wr (some p)) (fun _ _ z _ => 40000 - (intOf z).toNat)
  case atStart => exact ⟨a0, 0, 1, 36, rfl, rfl, rfl, ha, by omega, Nat.le_refl _, by omega, by omega, by omega, HR.out.symm, HRD.out, grown_self _ _⟩
  case round =>
    obtain ⟨a, n, v, k, rfl, rfl, rfl, hal, hk, haa, hn, hv1, hv2, hgo, hrd, hgr⟩ := hrel
    obtain ⟨c0, c1, c2⟩ := hrd.cells
    have f1 := hrd.frozen 1
    have hk2 : k ≤ 36900 := by omega
    have HK := Lib.hid hk
    have HGR := Lib.hid hgr
    have HRD1 := Lib.hid hrd
    clear hk
    by_cases hlt : a < s.size
    · obtain ⟨f', hf'⟩ : ∃ f', s.size - a = f' + 1 := ⟨s.size - a - 1, by omega⟩
      have hf2 : s.size - (a + 1) = f' := by omega
      rw [hf'] at hgo
      have HF2 := Lib.hid hf2
      have hidx : s[a] = byteAt s a := by simp [byteAt, List.getD, hlt]; rfl
      have eqI : ((a : Int) == (s.size : Int)) = false := by rw [beq_eq_false_iff_ne]; omega
      have hltI : (a : Int) < (s.size : Int) := by omega
      have cV := Lib.hid (fun W => puny_value s[a] W)
      clear hf' hf2 hgr hrd
      cases hval : valN (byteAt s a) with
      | none =>
        rw [rd_form hlt hval] at hgo
        have HG := Lib.hid hgo
        have cV2 : ∀ W, Calls Tryz.prog 128 #[.int .u8 (s[a].toNat : Int)] W fun e w' => e = .returned (.tuple #[.int .i64 0, .bool false]) ∧ w' = W := fun W => by have := cV.out W; rw [hidx, hval] at this; rw [hidx]; exact this
        have CV2 := Lib.hid cV2
        clear hgo hval cV2 cV hidx
        go_wp2_with fail
        go_quiet (fail)
        have hrdq := HRD1.out.drewN nq
        have hgrq := grown_drewN HGR.out nq
        generalize wr.drewN nq = wq at *
        obtain ⟨c0, c1, c2⟩ := hrdq.cells
        have f1 := hrdq.frozen 1
        have HRDQ := Lib.hid hrdq
        have HGRQ := Lib.hid hgrq
        clear hrdq hgrq
        go_wp2_with fail
        go_quiet ((go_at_call 128; exact Calls.quiet_of_same (CV2.out _)))
        have hrdq := HRDQ.out.drewN nq
        have hgrq := grown_drewN HGRQ.out nq
        generalize wq.drewN nq = wv at *
        obtain ⟨c0, c1, c2⟩ := hrdq.cells
        have f1 := hrdq.frozen 1
        have HRDV := Lib.hid hrdq
        have HGRV := Lib.hid hgrq
        clear hrdq hgrq
        go_wp2_with fail
        refine (api_Fail' 11 a _).mono ?_
        rintro e w5 ⟨u, rfl, hu, hb5⟩
        have hgE := grown_trans HGRV.out (below_grownBy hb5 _)
        go_wp2_with fail
        go_ret2
        exact ⟨hgE, .inl ⟨11, a, u, by rw [HRR.out, ← HG.out], by decide, rfl, hu⟩⟩
      | some d =>
        have hd := valN_lt hval
        have hst1 := rd_far (b := b) (f := f') (n := n) (w := v) (k := k) hlt hval
        have hst2 := rd_ok (b := b) (f := f') (n := n) (w := v) (k := k) hlt hval
        have hst3 := rd_wide (b := b) (f := f') (n := n) (w := v) (k := k) hlt hval
        have hst4 := rd_next (b := b) (f := f') (n := n) (w := v) (k := k) hlt hval
        have cV2 : ∀ W, Calls Tryz.prog 128 #[.int .u8 (s[a].toNat : Int)] W fun e w' => e = .returned (.tuple #[.int .i64 (d : Int), .bool true]) ∧ w' = W := fun W => by have := cV.out W; rw [hidx, hval] at this; rw [hidx]; exact this
        have CV2 := Lib.hid cV2
        have hq := quo_int n d v hn hv1
        have hmx := mul_le_max hd hv2
        have ht := thrN_range k b
        have hw := wide_int v (thrN k b) ht.1 ht.2
        have cT := Lib.hid (fun W => puny_threshold k b W (by omega) hb)
        clear hval cV2 cV hidx
        by_cases h3 : 2147483647 < n + d * v
        · rw [hst1 h3] at hgo
          have hqI := hq.2 h3
          have HG := Lib.hid hgo
          clear hgo hst1 hst2 hst3 hst4 hq hw h3 hmx
          go_wp2_with fail
          go_quiet (fail)
          have hrdq := HRD1.out.drewN nq
          have hgrq := grown_drewN HGR.out nq
          generalize wr.drewN nq = wq at *
          obtain ⟨c0, c1, c2⟩ := hrdq.cells
          have f1 := hrdq.frozen 1
          have HRDQ := Lib.hid hrdq
          have HGRQ := Lib.hid hgrq
          clear hrdq hgrq
          go_wp2_with fail
          go_quiet ((go_at_call 128; exact Calls.quiet_of_same (CV2.out _)))
          have hrdq := HRDQ.out.drewN nq
          have hgrq := grown_drewN HGRQ.out nq
          generalize wq.drewN nq = wv at *
          obtain ⟨c0, c1, c2⟩ := hrdq.cells
          have f1 := hrdq.frozen 1
          have HRDV := Lib.hid hrdq
          have HGRV := Lib.hid hgrq
          clear hrdq hgrq
          go_wp2_with fail
          refine (api_Fail' 16 a _).mono ?_
          rintro e w5 ⟨u, rfl, hu, hb5⟩
          have hgE := grown_trans HGRV.out (below_grownBy hb5 _)
          go_wp2_with fail
          go_ret2
          exact ⟨hgE, .inl ⟨16, a, u, by rw [HRR.out, ← HG.out], by decide, rfl, hu⟩⟩
        have hqI := fun h => h3 (hq.1 h)
        have hnv : ((n + d * v : Nat) : Int) = (n : Int) + (d : Int) * (v : Int) := by simp
        have hdv : ((d * v : Nat) : Int) = (d : Int) * (v : Int) := by simp
        have hp0 : 0 ≤ (d : Int) * (v : Int) := by rw [← hdv]; exact Int.natCast_nonneg _
        have hp1 : (d : Int) * (v : Int) ≤ 77309411292 := by rw [← hdv]; omega
        have hnn : n + d * v ≤ 2147483647 := by omega
        by_cases h4 : d < thrN k b
        · rw [hst2 h3 h4] at hgo
          have HG := Lib.hid hgo
          have h4I : (d : Int) < ((thrN k b : Nat) : Int) := by omega
          have HNV := Lib.hid hnv
          clear hgo hst1 hst2 hst3 hst4 hq hw hmx hnv hdv h3 hnn h4
          generalize thrN k b = t at *
          go_wp2_with fail
          go_quiet (fail)
          have hrdq := HRD1.out.drewN nq
          have hgrq := grown_drewN HGR.out nq
          generalize wr.drewN nq = wq at *
          obtain ⟨c0, c1, c2⟩ := hrdq.cells
          have f1 := hrdq.frozen 1
          have HRDQ := Lib.hid hrdq
          have HGRQ := Lib.hid hgrq
          clear hrdq hgrq
          go_wp2_with fail
          go_quiet ((go_at_call 128; exact Calls.quiet_of_same (CV2.out _)))
          have hrdq := HRDQ.out.drewN nq
          have hgrq := grown_drewN HGRQ.out nq
          generalize wq.drewN nq = wv at *
          obtain ⟨c0, c1, c2⟩ := hrdq.cells
          have f1 := hrdq.frozen 1
          have HRDV := Lib.hid hrdq
          have HGRV := Lib.hid hgrq
          clear hrdq hgrq
          go_wp2_with fail
          refine (cT.out _).mono ?_
          rintro e w5 ⟨rfl, rfl⟩
          have hset := HRDV.out.setA (a + 1)
          have hgs := grown_set HGRV.out 1 (.int .i64 ((a + 1 : Nat) : Int))
          have hae : ((a + 1 : Nat) : Int) = (a : Int) + 1 := by simp
          rw [hae] at hset hgs
          have HSET := Lib.hid hset
          have HGS := Lib.hid hgs
          clear hset hgs hae
          go_wp2_with fail
          go_ret2
          exact ⟨HGS.out, .inr ⟨n + d * v, a + 1, by rw [HRR.out, ← HG.out], by rw [HNV.out]; rfl, by have := HSET.out; unfold RdP at this ⊢; simpa using this⟩⟩
        have h4I : ¬ (d : Int) < ((thrN k b : Nat) : Int) := by omega
        by_cases h5 : 2147483647 < v * (36 - thrN k b)
        · rw [hst3 h3 h4 h5] at hgo
          have HG := Lib.hid hgo
          have h5I := hw.2 h5
          clear hgo hst1 hst2 hst3 hst4 hq hw hmx hnv hdv h3 hnn h4 h5
          generalize thrN k b = t at *
          go_wp2_with fail
          go_quiet (fail)
          have hrdq := HRD1.out.drewN nq
          have hgrq := grown_drewN HGR.out nq
          generalize wr.drewN nq = wq at *
          obtain ⟨c0, c1, c2⟩ := hrdq.cells
          have f1 := hrdq.frozen 1
          have HRDQ := Lib.hid hrdq
          have HGRQ := Lib.hid hgrq
          clear hrdq hgrq
          go_wp2_with fail
          go_quiet ((go_at_call 128; exact Calls.quiet_of_same (CV2.out _)))
          have hrdq := HRDQ.out.drewN nq
          have hgrq := grown_drewN HGRQ.out nq
          generalize wq.drewN nq = wv at *
          obtain ⟨c0, c1, c2⟩ := hrdq.cells
          have f1 := hrdq.frozen 1
          have HRDV := Lib.hid hrdq
          have HGRV := Lib.hid hgrq
          clear hrdq hgrq
          go_wp2_with fail
          refine (cT.out _).mono ?_
          rintro e w5 ⟨rfl, rfl⟩
          go_wp2_with fail
          refine (api_Fail' 16 a _).mono ?_
          rintro e w5 ⟨u, rfl, hu, hb5⟩
          have hgE := grown_trans HGRV.out (below_grownBy hb5 _)
          go_wp2_with fail
          go_ret2
          exact ⟨hgE, .inl ⟨16, a, u, by rw [HRR.out, ← HG.out], by decide, rfl, hu⟩⟩
        · rw [hst4 h3 h4 h5] at hgo
          have HG := Lib.hid hgo
          have h5I := fun h => h5 (hw.1 h)
          have hvt : ((v * (36 - thrN k b) : Nat) : Int) = (v : Int) * (36 - ((thrN k b : Nat) : Int)) := by
            rw [Int.natCast_mul]; congr 1; omega
          have hw0 : 0 ≤ (v : Int) * (36 - ((thrN k b : Nat) : Int)) := by rw [← hvt]; exact Int.natCast_nonneg _
          have hw1 : (v : Int) * (36 - ((thrN k b : Nat) : Int)) ≤ 2147483647 := by rw [← hvt]; omega
          have hv1' : 1 ≤ v * (36 - thrN k b) := Nat.mul_pos (by omega) (by omega)
          have HNV := Lib.hid hnv
          have HVT := Lib.hid hvt
          have HN := Lib.hid hnn
          have H5 := Lib.hid (Nat.not_lt.1 h5)
          have HV1 := Lib.hid hv1'
          clear hgo hst1 hst2 hst3 hst4 hq hw hmx hnv hdv h3 hnn h4 h5 hvt hv1'
          generalize thrN k b = t at *
          go_wp2_with fail
          go_quiet (fail)
          have hrdq := HRD1.out.drewN nq
          have hgrq := grown_drewN HGR.out nq
          generalize wr.drewN nq = wq at *
          obtain ⟨c0, c1, c2⟩ := hrdq.cells
          have f1 := hrdq.frozen 1
          have HRDQ := Lib.hid hrdq
          have HGRQ := Lib.hid hgrq
          clear hrdq hgrq
          go_wp2_with fail
          go_quiet ((go_at_call 128; exact Calls.quiet_of_same (CV2.out _)))
          have hrdq := HRDQ.out.drewN nq
          have hgrq := grown_drewN HGRQ.out nq
          generalize wq.drewN nq = wv at *
          obtain ⟨c0, c1, c2⟩ := hrdq.cells
          have f1 := hrdq.frozen 1
          have HRDV := Lib.hid hrdq
          have HGRV := Lib.hid hgrq
          clear hrdq hgrq
          go_wp2_with fail
          refine (cT.out _).mono ?_
          rintro e w5 ⟨rfl, rfl⟩
          have hset := HRDV.out.setA (a + 1)
          have hgs := grown_set HGRV.out 1 (.int .i64 ((a + 1 : Nat) : Int))
          have hae : ((a + 1 : Nat) : Int) = (a : Int) + 1 := by simp
          rw [hae] at hset hgs
          have HSET := Lib.hid hset
          have HGS := Lib.hid hgs
          clear hset hgs hae
          go_wp2_with fail
          go_roundw
          case rel => exact ⟨a + 1, n + d * v, v * (36 - t), k + 36, by rw [HNV.out], by rw [HVT.out], by simp, by omega, by have := HK.out; omega, by omega, HN.out, HV1.out, H5.out, by rw [HF2.out]; exact HG.out, by have := HSET.out; unfold RdP at this ⊢; simpa using this, HGS.out⟩
          case measure => simp [intOf]; omega
    · obtain rfl : a = s.size := by omega
      rw [rd_end (Nat.le_refl _)] at hgo
      have HG := Lib.hid hgo
      have eqI : ((s.size : Int) == (s.size : Int)) = true := by simp
      clear hgo hgr hrd
      go_wp2_with fail
      go_quiet (fail)
      have hrdq := HRD1.out.drewN nq
      have hgrq := grown_drewN HGR.out nq
      generalize wr.drewN nq = wq at *
      obtain ⟨c0, c1, c2⟩ := hrdq.cells
      have HRDQ := Lib.hid hrdq
      have HGRQ := Lib.hid hgrq
      clear hrdq hgrq
      go_wp2_with fail
      refine (api_Fail' 10 s.size _).mono ?_
      rintro e w5 ⟨u, rfl, hu, hb5⟩
      have hgE := grown_trans HGRQ.out (below_grownBy hb5 _)
      go_wp2_with fail
      go_ret2
      exact ⟨hgE, .inl ⟨10, s.size, u, by rw [HRR.out, ← HG.out], by decide, rfl, hu⟩⟩
end Go.Proofs.YtbonnmkkacplgaaGreatDoor

/- A string's bytes, as a slice that reads as the string. -/
namespace Go.Proofs.YtbonnmkkacplgaaGreatDoor
open Go.RowKit

section
variable {P : Program}
theorem wpList_bytes_sl {ops : Array Oper} {rest : List Oper} {o : Oper} {a : Act} {w : World} {Q : Exit → Act → World → Prop} (hgd : o.guard = none) (src dst e : TypeId) (x : Operand)
    (ho : o.op = .convert src dst x) (s : ByteArray) (hx : a.eval x = .string s) (hs : P.underlying src = some .string) (hd : P.underlying dst = some (.slice e)) (he : P.underlying e = some (.int .u8)) (hm : s.size ≤ 140737488351232)
    (h : ∀ (v : Value) (w' : World), BytesSl w' v s → Below w.heap.size w w' → wpList P ops Q rest (a.put o.dst v) w') : wpList P ops Q (o :: rest) a w := by
  refine wpList_plain hgd fun K hK => ?_
  unfold Oper.wp execOp
  have hr := run_bytes_of_string (P := P) w src dst e s hs hd he
  simp only [ho, hx, Sem.run_bind, hr, Result.andThen_ok, Sem.run_pure]
  refine hK _ _ (h _ _ (.inr ⟨w.heap.size, 0, grownCap w s.size 0 e, rfl, grownCap_ge w s.size 0 e, grownCap_le_maxLen w s.size 0 e (by unfold maxLen; omega), by simp, BytesAt.isIn ?_⟩) ((((Below.refl _ _).drew).alloc (Nat.le_refl _) _)))
  refine ⟨e, List.replicate (grownCap w s.size 0 e - s.size) (Value.int .u8 0), _, s.data.toList.length + (List.replicate (grownCap w s.size 0 e - s.size) (Value.int .u8 0)).length + 1, .inr (Nat.le_refl _), ?_⟩
  refine (heap_alloc_new w.drew _).trans ?_
  have hb : bytesRow s (grownCap w s.size 0 e) = (List.map byteV s.data.toList ++ List.replicate (grownCap w s.size 0 e - s.size) (Value.int .u8 0)).toArray := by
    unfold bytesRow
    apply Array.ext'
    simp [byteV]
  have hsz : (bytesRow s (grownCap w s.size 0 e)).size = s.data.toList.length + (List.replicate (grownCap w s.size 0 e - s.size) (Value.int .u8 0)).length := by
    rw [hb]; simp
  rw [hsz, hb]
end
end Go.Proofs.YtbonnmkkacplgaaGreatDoor
