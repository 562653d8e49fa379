/- Rows of numbers that came in: rows of bytes, rows of ints. -/
import Derived.Test.YtakcfgmibijdnaaPunyPlainLM4
import Derived.Test.YtakcfgmibijdnaaPunyPlainLM2
import Derived.Test.YtakcfgmibijdnaaPunyPlainLM3
import Derived.BigQuiet

namespace Go.Proofs.Ytakcfgmibijdnaa
open Go.RowKit

/-- A slice of numbers that came in: nil, or a row of so many cells, each fitting its kind. -/
def IsRow (k : IntKind) (w : World) (a : Option Addr) (len cap : Nat) (zs : List Int) : Prop :=
  (a = none ∧ len = 0 ∧ cap = 0 ∧ zs = []) ∨
  ∃ x, a = some x ∧ len ≤ cap ∧ cap ≤ maxLen ∧ zs.length = cap ∧ (∀ i, i < zs.length → w.cell? (x.add i) = some (.int k (zs.getD i 0))) ∧ ∀ n ∈ zs, (Lit.int k n).wf = true

theorem spot_none {w : World} {x : Addr} {v : Value} (h : w.cell? (x.add 0) = some v) : x = ⟨x.block, x.off, none⟩ ∧ x.block < w.heap.size := by
  have hb := World.block_lt_of_cell? w _ h
  cases x with
  | mk b o s =>
    cases s with
    | none => exact ⟨rfl, hb⟩
    | some q =>
      simp only [World.cell?, Addr.add] at h
      split at h <;> simp at h

theorem IsRow.bytes {w : World} {a : Option Addr} {len cap : Nat} {zs : List Int} (h : IsRow .u8 w a len cap zs) : ∃ s : ByteArray, s.size = len ∧ BytesSl w (.slice a len cap) s := by
  rcases h with ⟨rfl, rfl, rfl, rfl⟩ | ⟨x, rfl, hl, hm, hz, hcell, hwz⟩
  · exact ⟨ByteArray.empty, rfl, .inl ⟨rfl, none, 0, rfl⟩⟩
  · have hsz : (⟨((zs.take len).map fun n => UInt8.ofNat n.toNat).toArray⟩ : ByteArray).size = len := by
      show (((zs.take len).map fun n => UInt8.ofNat n.toNat).toArray).size = _
      simp; omega
    refine ⟨⟨((zs.take len).map fun n => UInt8.ofNat n.toNat).toArray⟩, hsz, ?_⟩
    by_cases h0 : len = 0
    · exact .inl ⟨hsz.trans h0, some x, cap, by rw [h0]⟩
    · obtain ⟨hx, hb⟩ := spot_none (hcell 0 (by omega))
      refine .inr ⟨x.block, x.off, cap, by rw [hsz, ← hx], by rw [hsz]; exact hl, hm, hb, fun j hj => ?_⟩
      rw [hsz] at hj
      have hc := hcell j (by omega)
      have hadd : x.add j = ⟨x.block, x.off + j, none⟩ := by cases x; cases hx; simp [Addr.add]
      rw [hadd] at hc
      rw [hc]
      have hjz : j < zs.length := by omega
      have hw := hwz zs[j] (List.getElem_mem _)
      simp [Lit.wf, IntKind.min, IntKind.max, IntKind.signed, IntKind.bits] at hw
      simp only [byteAt, List.getD, List.getElem?_map, List.getElem?_take, if_pos hj, List.getElem?_eq_getElem hjz, Option.map_some, Option.getD_some]
      rw [UInt8.toNat_ofNat_of_lt' (by have : zs[j].toNat < 256 := by omega
                                       exact this), Int.toNat_of_nonneg hw.1]

/-- A slice of ints that reads as these numbers. -/
def IntsSl (w : World) (v : Value) (l : List Int) : Prop :=
  (l = [] ∧ ∃ a cap, v = .slice a 0 cap) ∨ ∃ b off cap, v = .slice (some ⟨b, off, none⟩) l.length cap ∧ l.length ≤ cap ∧ cap ≤ maxLen ∧ b < w.heap.size ∧ ∀ j, j < l.length → w.cell? ⟨b, off + j, none⟩ = some (.int .i64 (l.getD j 0))
theorem IntsSl.below {w w' : World} {v : Value} {l : List Int} (h : IntsSl w v l) (hb : Below w.heap.size w w') : IntsSl w' v l := by
  rcases h with h | ⟨b, off, cap, e, h1, h2, h3, h4⟩
  · exact .inl h
  · exact .inr ⟨b, off, cap, e, h1, h2, Nat.lt_of_lt_of_le h3 hb.size, fun j hj => (hb.cell (p := ⟨b, off + j, none⟩) h3).trans (h4 j hj)⟩
theorem IsRow.ints {w : World} {a : Option Addr} {len cap : Nat} {zs : List Int} (h : IsRow .i64 w a len cap zs) : ∃ l : List Int, l.length = len ∧ IntsSl w (.slice a len cap) l ∧ ∀ n ∈ l, (Lit.int .i64 n).wf = true := by
  rcases h with ⟨rfl, rfl, rfl, rfl⟩ | ⟨x, rfl, hl, hm, hz, hcell, hwz⟩
  · exact ⟨[], rfl, .inl ⟨rfl, none, 0, rfl⟩, fun _ h => by cases h⟩
  · have hlen : (zs.take len).length = len := by simp; omega
    refine ⟨zs.take len, hlen, ?_, fun n hn => hwz n (List.mem_of_mem_take hn)⟩
    by_cases h0 : len = 0
    · exact .inl ⟨by rw [h0]; rfl, some x, cap, by rw [h0]⟩
    · obtain ⟨hx, hb⟩ := spot_none (hcell 0 (by omega))
      refine .inr ⟨x.block, x.off, cap, by rw [hlen, ← hx], by rw [hlen]; exact hl, hm, hb, fun j hj => ?_⟩
      rw [hlen] at hj
      have hc := hcell j (by omega)
      have hadd : x.add j = ⟨x.block, x.off + j, none⟩ := by cases x; cases hx; simp [Addr.add]
      rw [hadd] at hc
      rw [hc]
      simp [List.getD, hj]
end Go.Proofs.Ytakcfgmibijdnaa

/- utf.right, utf.Put, utf.Text. -/
namespace Go.Proofs.Ytakcfgmibijdnaa
open Go.RowKit

set_option maxHeartbeats 800000 in
theorem utf_right (n : Int) (w : World) : Calls Try.prog 33 #[.int .i64 n] w fun e w' => e = .returned (.bool (rightB n)) ∧ w = w' := by
  have hd : rightB n = (decide (0 ≤ n) && decide (n < 1114112) && decide (halfZ n = 0)) := rfl
  have HD := Lib.hid hd
  clear hd
  by_cases a1 : 0 ≤ n
  · by_cases a2 : n < 1114112
    · have a4 : n ≤ 1114111 := by omega
      by_cases a3 : halfZ n = 0
      · have e1 : (halfZ n == 0) = true := by rw [beq_iff_eq]; exact a3
        have HR := Lib.hid (show rightB n = true by rw [HD.out, decide_eq_true a1, decide_eq_true a2, decide_eq_true a3]; rfl)
        clear a3
        go_enter Try.func33, Try.ntmps33
        go_wp2_with fail
        refine (utf_Half n _).mono ?_
        rintro e w1 ⟨rfl, rfl⟩
        go_wp2_with fail
        go_ret
        exact ⟨ret_bool HR.out.symm, rfl⟩
      · have e1 : (halfZ n == 0) = false := by rw [beq_eq_false_iff_ne]; exact a3
        have HR := Lib.hid (show rightB n = false by rw [HD.out, decide_eq_false a3, Bool.and_false])
        clear a3
        go_enter Try.func33, Try.ntmps33
        go_wp2_with fail
        refine (utf_Half n _).mono ?_
        rintro e w1 ⟨rfl, rfl⟩
        go_wp2_with fail
        go_ret
        exact ⟨ret_bool HR.out.symm, rfl⟩
    · have HR := Lib.hid (show rightB n = false by rw [HD.out, decide_eq_false a2, Bool.and_false, Bool.false_and])
      have a2' : 1114112 ≤ n := by omega
      clear a2
      go_enter Try.func33, Try.ntmps33
      go_wp2_with fail
      go_ret
      exact ⟨ret_bool HR.out.symm, rfl⟩
  · have HR := Lib.hid (show rightB n = false by rw [HD.out, decide_eq_false a1, Bool.false_and, Bool.false_and])
    have a1' : n < 0 := by omega
    clear a1
    go_enter Try.func33, Try.ntmps33
    go_wp2_with fail
    go_ret
    exact ⟨ret_bool HR.out.symm, rfl⟩

theorem right_nat {n : Int} (h : rightB n = true) : ∃ c : Nat, n = c ∧ rightC c ∧ c ≤ 1114111 := by
  have hz := (rightB_iff n).1 h
  unfold rightZ at hz
  obtain ⟨c, rfl⟩ := Int.eq_ofNat_of_zero_le hz.1
  exact ⟨c, rfl, (rightC_iff c).2 h, by omega⟩

/-- utf8.AppendRune onto bytes of the call's own. -/
theorem append_rune (B : Nat) (v : Value) (l : List UInt8) (c : Nat) (hc : rightC c) (w : World) (hown : OwnB w B v l) (hl : l.length ≤ 1073741824) (hB : B ≤ w.heap.size) :
    Calls Try.prog 34 #[v, .int .i32 (c : Int)] w fun e w' => ∃ v', e = .returned v' ∧ OwnB w' B v' (l ++ putL c) ∧ ∃ o, (w.alloc o).grownBy w' v.ownBlock := by
  have h1 : (c : Int) ≤ 1114111 := by unfold rightC at hc; omega
  refine (Try.utf8_AppendRune_plain B v l.length (l.map byteV) c (by omega) (by omega) w hown (by omega) hB).mono ?_
  rintro e w' ⟨v', he, h, hg⟩
  refine ⟨v', he, ?_, hg⟩
  rw [runeCells_put hc] at h
  unfold OwnB
  rw [List.length_append, List.map_append]
  simpa using h

def UPutPost (n : Int) (w : World) (e : Ending) (w' : World) : Prop :=
  Below w.heap.size w w' ∧ ((rightB n = true ∧ ∃ v, e = .returned (.tuple #[v, .nilIface]) ∧ OwnB w' w.heap.size v (putL n.toNat)) ∨
    (rightB n = false ∧ ∃ v, e = .returned (.tuple #[.slice none 0 0, v]) ∧ IsFault w' v 16 0))

set_option maxHeartbeats 800000 in
theorem utf_Put (n : Int) (w : World) : Calls Try.prog 23 #[.int .i64 n] w (UPutPost n w) := by
  by_cases hr : rightB n = true
  · have hr' := hr
    obtain ⟨c, rfl, hc, hc2⟩ := right_nat hr
    have cR := Lib.hid (fun W => hr ▸ utf_right (c : Int) W)
    have HR := Lib.hid hr'
    clear hr hr'
    go_enter Try.func23, Try.ntmps23
    go_wp2_with fail
    refine (cR.out _).mono ?_
    rintro e w1 ⟨rfl, rfl⟩
    go_wp2_with fail
    refine (append_rune w.heap.size _ [] c hc _ (OwnB.nil _ _) (by simp) (Nat.le_refl _)).mono ?_
    rintro e w2 ⟨v, rfl, hown, o, hgr⟩
    have hb : Below w.heap.size w w2 := ((Below.refl w.heap.size w).alloc (Nat.le_refl _) o).grown hgr (by simp) (fun k hk => by cases hk)
    go_wp2_with fail
    go_ret2
    exact ⟨hb, .inl ⟨HR.out, v, rfl, by simpa using hown⟩⟩
  · have hr : rightB n = false := by simpa using hr
    have cR := Lib.hid (fun W => hr ▸ utf_right n W)
    have HR := Lib.hid hr
    clear hr
    go_enter Try.func23, Try.ntmps23
    go_wp2_with fail
    refine (cR.out _).mono ?_
    rintro e w1 ⟨rfl, rfl⟩
    go_wp2_with fail
    refine (api_Fail' 16 0 _).mono ?_
    rintro e w2 ⟨v, rfl, hv, hb⟩
    go_wp2_with fail
    go_ret2
    exact ⟨hb, .inr ⟨HR.out, v, rfl, hv⟩⟩

end Go.Proofs.Ytakcfgmibijdnaa

/- puny.threshold, digit, right, number. -/
namespace Go.Proofs.Ytakcfgmibijdnaa
open Go.RowKit

theorem thr_int (k b : Nat) : min (max ((k : Int) - (b : Int)) 1) 26 = ((thrN k b : Nat) : Int) := by unfold thrN; omega
set_option maxHeartbeats 800000 in
theorem puny_threshold (k b : Nat) (w : World) (hk : k ≤ 1000000) (hb : b ≤ 1000000000000) :
    Calls Try.prog 27 #[.int .i64 (k : Int), .int .i64 (b : Int)] w fun e w' => e = .returned (.int .i64 ((thrN k b : Nat) : Int)) ∧ w = w' := by
  have HT := Lib.hid (thr_int k b)
  generalize thrN k b = t at *
  go_enter Try.func27, Try.ntmps27
  go_wp2_with fail
  go_ret
  exact ⟨by rw [← HT.out]; try simp, rfl⟩
theorem dig_int (n : Nat) (h : n < 36) : ((digN n).toNat : Int) = if (n : Int) < 26 then 97 + (n : Int) else 22 + (n : Int) := by
  unfold digN
  by_cases h1 : n < 26
  · rw [if_pos h1, if_pos (by omega), UInt8.toNat_ofNat_of_lt' (show 97 + n < 256 by omega)]; simp
  · rw [if_neg h1, if_neg (by omega), UInt8.toNat_ofNat_of_lt' (show 22 + n < 256 by omega)]; simp
set_option maxHeartbeats 800000 in
theorem puny_digit (n : Nat) (w : World) (h : n < 36) :
    Calls Try.prog 28 #[.int .i64 (n : Int)] w fun e w' => e = .returned (.int .u8 ((digN n).toNat : Int)) ∧ w = w' := by
  have hd := dig_int n h
  by_cases h1 : (n : Int) < 26
  · rw [if_pos h1] at hd
    have HD := Lib.hid (congrArg (fun x => Ending.returned (.int .u8 x)) hd)
    clear hd
    go_enter Try.func28, Try.ntmps28
    go_wp2_with fail
    go_ret
    exact ⟨HD.out.symm, rfl⟩
  · rw [if_neg h1] at hd
    have HD := Lib.hid (congrArg (fun x => Ending.returned (.int .u8 x)) hd)
    clear hd
    go_enter Try.func28, Try.ntmps28
    go_wp2_with fail
    go_ret
    refine ⟨?_, rfl⟩
    rw [HD.out]
    show Ending.returned (.int .u8 (48 + (n : Int) - 26)) = _
    rw [show 48 + (n : Int) - 26 = 22 + (n : Int) by omega]
set_option maxHeartbeats 800000 in
theorem puny_right (n : Int) (w : World) : Calls Try.prog 10 #[.int .i64 n] w fun e w' => e = .returned (.bool (rightB n)) ∧ Below w.heap.size w w' := by
  have cP := Lib.hid (utf_Put n w)
  go_enter Try.func10, Try.ntmps10
  go_wp2_with fail
  refine cP.out.mono ?_
  rintro e w2 ⟨hb2, h⟩
  rcases h with ⟨hr, v, rfl, _⟩ | ⟨hr, v, rfl, hv⟩
  · have HR := Lib.hid hr
    go_wp2_with fail
    go_ret
    exact ⟨ret_bool HR.out.symm, hb2⟩
  · have HR := Lib.hid hr
    obtain ⟨q, rfl⟩ := hv.ne_nil
    clear hv
    go_wp2_with fail
    go_ret
    exact ⟨ret_bool HR.out.symm, hb2⟩
theorem sub_div_int {m t : Nat} (h : t ≤ m) (ht : t ≤ 26) : (((m - t) / (36 - t) : Nat) : Int) = ((m : Int) - (t : Int)) / (36 - (t : Int)) ∧ (((m - t) % (36 - t) : Nat) : Int) = ((m : Int) - (t : Int)) % (36 - (t : Int)) := by
  have h1 : ((m - t : Nat) : Int) = (m : Int) - t := by omega
  have h2 : ((36 - t : Nat) : Int) = 36 - (t : Int) := by omega
  constructor
  · rw [Int.natCast_ediv, h1, h2]
  · rw [Int.natCast_emod, h1, h2]
set_option maxHeartbeats 3200000 in
set_option maxRecDepth 100000 in
theorem puny_number (B b G : Nat) (l : List UInt8) (n bias : Nat) (w : World) (h : BldG w B b G l) (hlen : l.length ≤ 1000000) (hBw : B ≤ w.heap.size) (hn : n < 1000000000) (hb : bias ≤ 1000000000000) :
    Calls Try.prog 16 #[.pointer (some ⟨b, 0, none⟩), .int .i64 (n : Int), .int .i64 (bias : Int)] w fun e w' => e = .returned (.tuple #[]) ∧ BldG w' B b G (l ++ numD n bias) ∧ ButG B b G w w' := by
  have hlen2 := numD_len (b := bias) hn
  have HD := Lib.hid (show numD n bias = numL n n 36 bias from rfl)
  generalize numD n bias = D at *
  go_enter Try.func16, Try.ntmps16
  go_wp2_with fail
  go_loopw [1, 6] (fun x y wr => ∃ (f m k : Nat) (acc : List UInt8), x = .int .i64 m ∧ y = .int .i64 k ∧ m ≤ f ∧ m ≤ n ∧ k = 36 * (acc.length + 1) ∧ acc ++ numL f m k bias = D ∧ BldG wr B b G (l ++ acc) ∧ ButG B b G w wr) (fun x _ _ => (intOf x).toNat)
  case atStart => exact ⟨n, n, 36, [], rfl, rfl, Nat.le_refl _, Nat.le_refl _, rfl, HD.out.symm, by rw [List.append_nil]; exact h, ButG.refl _ _ _ _⟩
  case round =>
    obtain ⟨f, m, k, acc, rfl, rfl, hmf, hmn, hk, hacc, hbl, hbu⟩ := hrel
    have hal : acc.length ≤ 10 := by
      have := congrArg List.length hacc
      rw [List.length_append] at this
      omega
    have hk2 : k ≤ 1000000 := by omega
    have cT := Lib.hid (puny_threshold k bias wr hk2 hb)
    have ht := thrN_range k bias
    have hsz := Nat.le_trans hBw hbu.1.size
    have HBU := Lib.hid hbu
    have HBL := Lib.hid hbl
    have HK := Lib.hid hk
    clear hk
    by_cases hlt : m < thrN k bias
    · rw [numL_last hlt] at hacc
      have HA := Lib.hid hacc
      generalize thrN k bias = t at *
      have hltI : (m : Int) < (t : Int) := by omega
      have cG := Lib.hid (puny_digit m wr (by omega))
      have cW := Lib.hid (bldG_WriteByte B b G (l ++ acc) (digN m) wr hbl (by rw [List.length_append]; omega) hsz)
      generalize digN m = dg at *
      clear hacc hbu hbl hlt h
      go_wp2_with fail
      refine cT.out.mono ?_
      rintro e w2 ⟨rfl, rfl⟩
      go_wp2_with fail
      refine cG.out.mono ?_
      rintro e w2 ⟨rfl, rfl⟩
      go_wp2_with fail
      refine cW.out.mono ?_
      rintro e w2 ⟨rfl, hb2, hbu2⟩
      go_wp2_with fail
      first | go_end0 | (simp only [Exit.inBlock, Exit.then]; refine bodyPost_ret (results_none rfl _ _ _) rfl ?_) | refine bodyPost_ret (results_none rfl _ _ _) rfl ?_
      exact ⟨rfl, by rw [← HA.out, ← List.append_assoc]; exact hb2, HBU.out.trans hbu2⟩
    · obtain ⟨f', rfl⟩ : ∃ f', f = f' + 1 := ⟨f - 1, by omega⟩
      have hless := num_less hlt
      rw [numL_more hlt] at hacc
      obtain ⟨e1, e2⟩ := sub_div_int (m := m) (t := thrN k bias) (by omega) ht.2
      have hmod : (m - thrN k bias) % (36 - thrN k bias) < 36 - thrN k bias := Nat.mod_lt _ (by omega)
      generalize thrN k bias = t at *
      have hdg : t + (m - t) % (36 - t) < 36 := by omega
      have hltI : ¬ (m : Int) < (t : Int) := by omega
      have cG := Lib.hid (puny_digit (t + (m - t) % (36 - t)) wr hdg)
      have cW := Lib.hid (bldG_WriteByte B b G (l ++ acc) (digN (t + (m - t) % (36 - t))) wr hbl (by rw [List.length_append]; omega) hsz)
      have hdc : wrap64 ((t : Int) + ((m : Int) - (t : Int)) % (36 - (t : Int))) = ((t + (m - t) % (36 - t) : Nat) : Int) := by
        rw [← e2, wrap64_inA _ (by omega) (by omega)]; simp
      generalize t + (m - t) % (36 - t) = dd at *
      generalize digN dd = dg at *
      generalize (m - t) / (36 - t) = q at *
      generalize (m - t) % (36 - t) = rr at *
      have HA := Lib.hid hacc
      have HE1 := Lib.hid e1
      have HDC := Lib.hid hdc
      clear hacc hbu hbl hlt h e1 e2 hdc
      go_wp2_with fail
      refine cT.out.mono ?_
      rintro e w2 ⟨rfl, rfl⟩
      go_wp2_with fail
      rw [HDC.out]
      refine cG.out.mono ?_
      rintro e w2 ⟨rfl, rfl⟩
      go_wp2_with fail
      refine cW.out.mono ?_
      rintro e w2 ⟨rfl, hb2, hbu2⟩
      go_wp2_with fail
      rw [← HE1.out]
      go_roundw
      case rel => exact ⟨f', q, k + 36, acc ++ [dg], rfl, by simp, by omega, by omega, by have := HK.out; simp; omega, by rw [List.append_assoc]; exact HA.out, by rw [← List.append_assoc]; exact hb2, HBU.out.trans hbu2⟩
      case measure => simp [intOf]; omega
end Go.Proofs.Ytakcfgmibijdnaa

/- puny.value, puny.reader.number. -/
namespace Go.Proofs.Ytakcfgmibijdnaa
open Go.RowKit

def valO (o : Option Nat) : Value := .tuple #[.int .i64 ((o.getD 0 : Nat) : Int), .bool o.isSome]
set_option maxHeartbeats 1600000 in
theorem puny_value (c : UInt8) (w : World) : Calls Try.prog 30 #[.int .u8 (c.toNat : Int)] w fun e w' => e = .returned (valO (valN c)) ∧ w' = w := by
  have hc : c.toNat < 256 := c.toNat_lt
  unfold valN
  generalize c.toNat = n at *
  by_cases h1 : 65 ≤ n ∧ n ≤ 90
  · rw [if_pos h1]
    have HV := Lib.hid (show valO (some (n - 65)) = .tuple #[.int .i64 ((n : Int) - 65), .bool true] by unfold valO; simp; omega)
    obtain ⟨a1, a2⟩ := h1
    go_enter Try.func30, Try.ntmps30
    go_wp2_with fail
    go_ret2
    refine ⟨?_, rfl⟩
    rw [HV.out]
    show Ending.returned (.tuple #[.int .i64 ((n : Int) + 32 - 97), .bool true]) = _
    rw [show (n : Int) + 32 - 97 = (n : Int) - 65 by omega]
  rw [if_neg h1]
  by_cases h2 : 97 ≤ n ∧ n ≤ 122
  · rw [if_pos h2]
    have HV := Lib.hid (show valO (some (n - 97)) = .tuple #[.int .i64 ((n : Int) - 97), .bool true] by unfold valO; simp; omega)
    obtain ⟨a1, a2⟩ := h2
    have a3 : ¬ n ≤ 90 := by omega
    clear h1
    go_enter Try.func30, Try.ntmps30
    go_wp2_with fail
    go_ret2
    exact ⟨by rw [HV.out]; first | rfl | (simp; omega), rfl⟩
  rw [if_neg h2]
  by_cases h3 : 48 ≤ n ∧ n ≤ 57
  · rw [if_pos h3]
    have HV := Lib.hid (show valO (some (n - 48 + 26)) = .tuple #[.int .i64 ((n : Int) - 48 + 26), .bool true] by unfold valO; simp; omega)
    obtain ⟨a1, a2⟩ := h3
    have a3 : ¬ 65 ≤ n := by omega
    have a4 : ¬ 97 ≤ n := by omega
    clear h1 h2
    go_enter Try.func30, Try.ntmps30
    go_wp2_with fail
    go_ret2
    exact ⟨by rw [HV.out]; first | rfl | (simp; omega), rfl⟩
  · rw [if_neg h3]
    have HV := Lib.hid (show valO none = .tuple #[.int .i64 0, .bool false] from rfl)
    have hs : n < 48 ∨ (57 < n ∧ n < 65) ∨ (90 < n ∧ n < 97) ∨ 122 < n := by omega
    clear h1 h2 h3
    rcases hs with h | ⟨h, h'⟩ | ⟨h, h'⟩ | h
    all_goals
      go_enter Try.func30, Try.ntmps30
      go_wp2_with fail
      go_ret2
      exact ⟨by rw [HV.out]; rfl, rfl⟩
/-- A reader in memory: the text, the place, the bias. -/
def RdP (w : World) (p : Nat) (s : ByteArray) (a b : Nat) : Prop := w.heap[p]? = some (.cells #[.string s, .int .i64 (a : Int), .int .i64 (b : Int)] 48 (0, 0))
theorem RdP.cells {w : World} {p a b : Nat} {s : ByteArray} (h : RdP w p s a b) : w.cell? ⟨p, 0, none⟩ = some (.string s) ∧ w.cell? ⟨p, 1, none⟩ = some (.int .i64 (a : Int)) ∧ w.cell? ⟨p, 2, none⟩ = some (.int .i64 (b : Int)) := by
  unfold RdP at h
  refine ⟨?_, ?_, ?_⟩
  · rw [cell_of_row w p 0 _ _ _ h]; rfl
  · rw [cell_of_row w p 1 _ _ _ h]; rfl
  · rw [cell_of_row w p 2 _ _ _ h]; rfl
theorem RdP.frozen {w : World} {p a b : Nat} {s : ByteArray} (h : RdP w p s a b) (j : Nat) : w.frozen? ⟨p, j, none⟩ = false := by unfold RdP at h; simp [World.frozen?, h]
theorem RdP.setA {w : World} {p a b : Nat} {s : ByteArray} (h : RdP w p s a b) (a' : Nat) : RdP (w.setCell ⟨p, 1, none⟩ (.int .i64 (a' : Int))) p s a' b := by
  unfold RdP at h ⊢; simp [World.setCell, Array.getElem?_modify, h]
theorem RdP.setB {w : World} {p a b : Nat} {s : ByteArray} (h : RdP w p s a b) (b' : Nat) : RdP (w.setCell ⟨p, 2, none⟩ (.int .i64 (b' : Int))) p s a b' := by
  unfold RdP at h ⊢; simp [World.setCell, Array.getElem?_modify, h]
theorem RdP.below {w w' : World} {p a b : Nat} {s : ByteArray} (h : RdP w p s a b) (hb : Below w.heap.size w w') : RdP w' p s a b := (hb.block p (lt_of_block h)).trans h
theorem RdP.drewN {w : World} {p a b : Nat} {s : ByteArray} (h : RdP w p s a b) (m : Nat) : RdP (w.drewN m) p s a b := h
theorem grown_set {w w' : World} {p : Nat} (h : w.grownBy w' (some p)) (j : Nat) (u : Value) : w.grownBy (w'.setCell ⟨p, j, none⟩ u) (some p) :=
  ⟨h.os, h.tape, h.output, by simpa [World.setCell] using h.size, fun k hk hne => (Below.heap_setCell w' _ u k (fun e => hne (by rw [e]))).trans (h.block k hk hne)⟩
theorem grown_trans {w w1 w2 : World} {r : Option Nat} (h : w.grownBy w1 r) (k : w1.grownBy w2 r) : w.grownBy w2 r :=
  ⟨k.os.trans h.os, k.tape.trans h.tape, k.output.trans h.output, Nat.le_trans h.size k.size, fun i hi hne => (k.block i (Nat.lt_of_lt_of_le hi h.size) hne).trans (h.block i hi hne)⟩
theorem grown_drewN {w w1 : World} {r : Option Nat} (h : w.grownBy w1 r) (m : Nat) : w.grownBy (w1.drewN m) r := ⟨h.os, h.tape, h.output, h.size, h.block⟩
theorem grown_self (w : World) (r : Option Nat) : w.grownBy w r := ⟨rfl, rfl, rfl, Nat.le_refl _, fun _ _ _ => rfl⟩
/-- What reading a number leaves. -/
def RdPost (p : Nat) (s : ByteArray) (a b : Nat) (w : World) (e : Ending) (w' : World) : Prop := w.grownBy w' (some p) ∧
  ((∃ k j : Nat, ∃ v, rdN s a b = .error (k, j) ∧ k ≠ 0 ∧ e = .returned (.tuple #[.int .i64 0, v]) ∧ IsFault w' v k j) ∨ ∃ i t : Nat, rdN s a b = .ok (i, t) ∧ e = .returned (.tuple #[.int .i64 (i : Int), .nilIface]) ∧ RdP w' p s t b)
theorem mul_le_max {d w : Nat} (h1 : d < 36) (h2 : w ≤ 2147483647) : d * w ≤ 36 * 2147483647 := Nat.mul_le_mul (by omega) h2
theorem quo_int (n d w : Nat) (hn : n ≤ 2147483647) (hw : 1 ≤ w) : ((d : Int) > (2147483647 - (n : Int)) / (w : Int)) ↔ 2147483647 < n + d * w := by
  have e : (2147483647 - (n : Int)) / (w : Int) = (((2147483647 - n) / w : Nat) : Int) := by
    rw [Int.natCast_ediv]; congr 1; omega
  rw [e]
  have h := Nat.div_lt_iff_lt_mul (x := 2147483647 - n) (y := d) (k := w) (by omega)
  constructor
  · intro h1
    have := h.1 (by omega)
    omega
  · intro h1
    have := h.2 (by omega)
    omega
theorem wide_int (w t : Nat) (h1 : 1 ≤ t) (h2 : t ≤ 26) : ((w : Int) > 2147483647 / (36 - (t : Int))) ↔ 2147483647 < w * (36 - t) := by
  have e : 2147483647 / (36 - (t : Int)) = ((2147483647 / (36 - t) : Nat) : Int) := by
    rw [Int.natCast_ediv]; congr 1; omega
  rw [e]
  have h := Nat.div_lt_iff_lt_mul (x := 2147483647) (y := w) (k := 36 - t) (by omega)
  constructor
  · intro h3; exact h.1 (by omega)
  · intro h3; have := h.2 h3; omega
end Go.Proofs.Ytakcfgmibijdnaa
