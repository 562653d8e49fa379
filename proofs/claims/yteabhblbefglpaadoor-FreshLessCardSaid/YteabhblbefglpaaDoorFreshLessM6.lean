/- fold.value and fold.number: the number of a text's digits. -/
import Derived.Test.YteabhblbefglpaaDoorFreshLessM1
import Derived.Test.YteabhblbefglpaaDoorFreshLessM5
import Derived.Test.YteabhblbefglpaaDoorShelf
import Derived.Shelf.Spec.BitsCarry
import Derived.Test.YteabhblbefglpaaDoorFreshLessM2

namespace Go.Proofs.YteabhblbefglpaaDoor
open Go.RowKit

/-- A digit's value; 99 where it is none. -/
def valN (n : Nat) : Nat := if 48 ≤ n ∧ n ≤ 57 then n - 48 else if 97 ≤ n ∧ n ≤ 102 then n - 87 else if 65 ≤ n ∧ n ≤ 70 then n - 55 else 99


set_option maxHeartbeats 1600000 in
theorem fold_value (n : Nat) (hn : n < 256) (w : World) : Calls Tryd.prog 140 #[.int .u8 (n : Int)] w fun e w' => e = .returned (.int .u64 (valN n : Nat)) ∧ w = w' := by
  have hc : n < 48 ∨ (48 ≤ n ∧ n ≤ 57) ∨ (57 < n ∧ n < 65) ∨ (65 ≤ n ∧ n ≤ 70) ∨ (70 < n ∧ n < 97) ∨ (97 ≤ n ∧ n ≤ 102) ∨ 102 < n := by omega
  have hv : n < 48 ∨ (57 < n ∧ n < 65) ∨ (70 < n ∧ n < 97) ∨ 102 < n → valN n = 99 := by
    intro h; unfold valN; rw [if_neg (by omega), if_neg (by omega), if_neg (by omega)]
  have hv1 : 48 ≤ n ∧ n ≤ 57 → valN n = n - 48 := by intro h; unfold valN; rw [if_pos h]
  have hv2 : 97 ≤ n ∧ n ≤ 102 → valN n = n - 87 := by intro h; unfold valN; rw [if_neg (by omega), if_pos h]
  have hv3 : 65 ≤ n ∧ n ≤ 70 → valN n = n - 55 := by intro h; unfold valN; rw [if_neg (by omega), if_neg (by omega), if_pos h]
  have HV := Lib.hid hv
  have HV1 := Lib.hid hv1
  have HV2 := Lib.hid hv2
  have HV3 := Lib.hid hv3
  clear hv hv1 hv2 hv3
  rcases hc with h | ⟨h, h'⟩ | ⟨h, h'⟩ | ⟨h, h'⟩ | ⟨h, h'⟩ | ⟨h, h'⟩ | h
  all_goals
    go_enter Tryd.func140, Tryd.ntmps140
    go_wp2
    go_ret
  · exact ⟨ret_u64 (by rw [HV.out (by omega)]; rfl), rfl⟩
  · exact ⟨ret_u64 (by rw [HV1.out (by omega)]; omega), rfl⟩
  · exact ⟨ret_u64 (by rw [HV.out (by omega)]; rfl), rfl⟩
  · exact ⟨ret_u64 (by rw [HV3.out (by omega)]; omega), rfl⟩
  · exact ⟨ret_u64 (by rw [HV.out (by omega)]; rfl), rfl⟩
  · exact ⟨ret_u64 (by rw [HV2.out (by omega)]; omega), rfl⟩
  · exact ⟨ret_u64 (by rw [HV.out (by omega)]; rfl), rfl⟩

theorem bits_Mul64 (x y : Nat) (hx : x < 18446744073709551616) (hy : y < 18446744073709551616) (w : World) :
    Calls Tryd.prog 65 #[.int .u64 (x : Int), .int .u64 (y : Int)] w fun e w' => ∃ hi lo : Nat, e = .returned (.tuple #[.int .u64 (hi : Int), .int .u64 (lo : Int)]) ∧ Hid (hi * 18446744073709551616 + lo = x * y) ∧ lo < 18446744073709551616 ∧ w = w' :=
  (Tryd.bits_Mul64 x y hx hy w).mono fun _ _ ⟨he, hw⟩ => ⟨_, _, he, Lib.hid (by have := Nat.div_add_mod (x * y) 18446744073709551616; omega), Nat.mod_lt _ (by omega), hw.symm⟩

theorem bits_Add64 (x y : Nat) (hx : x < 18446744073709551616) (hy : y < 18446744073709551616) : ∃ s c : Nat, (∀ w : World, (callFunc 66 #[.int .u64 (x : Int), .int .u64 (y : Int), .int .u64 0]).run Tryd.prog w = .ok (.value (.tuple #[.int .u64 (s : Int), .int .u64 (c : Int)])) w) ∧ Hid (c * 18446744073709551616 + s = x + y) ∧ s < 18446744073709551616 ∧ c ≤ 1 := by
  refine ⟨(x + y) % 18446744073709551616, (x + y) / 18446744073709551616, fun w => ?_, Lib.hid (by have := Nat.div_add_mod (x + y) 18446744073709551616; omega), Nat.mod_lt _ (by omega), by omega⟩
  rw [run_callFunc_extern Tryd.func66 (by kernel_rfl) (by kernel_rfl) (by kernel_rfl) (e := add64Entry) (by kernel_rfl) _ w, run_add64 x y 0 (by omega) (by omega) (by omega) (by omega)]
  simp only [Result.andThen]
  congr 5 <;> omega

/-- The number that the first k bytes give. -/
def numTo (base : Nat) (s : ByteArray) : Nat → Nat
  | 0 => 0
  | k + 1 => numTo base s k * base + valN (byteAt s k).toNat

/-- The first byte that is no digit of the base. -/
def firstBad (base : Nat) (s : ByteArray) : Option Nat := (List.range s.size).find? fun i => decide (base ≤ valN (byteAt s i).toNat)

/-- A text's number, of a base, at most another one: the number, the error's kind (0: none), its place. -/
def numRes (s : ByteArray) (base most : Nat) : Nat × Nat × Nat :=
  if s.size = 0 then (0, 10, 0) else match firstBad base s with
    | some i => (0, 11, i)
    | none => if 18446744073709551616 ≤ numTo base s s.size ∨ most < numTo base s s.size then (0, 16, 0) else (numTo base s s.size, 0, 0)

theorem firstBad_some {base : Nat} {s : ByteArray} {i : Nat} (hi : i < s.size) (h : ∀ j, j < i → valN (byteAt s j).toNat < base) (hb : base ≤ valN (byteAt s i).toNat) : firstBad base s = some i := by
  unfold firstBad
  rw [List.find?_range_eq_some]
  exact ⟨by simpa using hb, by simpa using hi, fun j hj => by simpa using h j hj⟩
theorem firstBad_none {base : Nat} {s : ByteArray} (h : ∀ j, j < s.size → valN (byteAt s j).toNat < base) : firstBad base s = none := by
  unfold firstBad
  rw [List.find?_eq_none]
  intro j hj
  simpa using h j (by simpa using hj)

theorem numTo_le (base : Nat) (s : ByteArray) (hb : 1 ≤ base) {j k : Nat} (h : j ≤ k) : numTo base s j ≤ numTo base s k := by
  induction h with
  | refl => exact Nat.le_refl _
  | step _ ih => exact Nat.le_trans ih (Nat.le_trans (Nat.le_mul_of_pos_right _ hb) (Nat.le_add_right _ _))

def NumPost (s : ByteArray) (base most : Nat) (w : World) (e : Ending) (w' : World) : Prop :=
  ∃ v, e = .returned (.tuple #[.int .u64 ((numRes s base most).1 : Int), v]) ∧ IsErr w' v (numRes s base most).2.1 (numRes s base most).2.2 ∧ Below w.heap.size w w'

theorem NumPost.bad {s : ByteArray} {base most : Nat} {w w' : World} {i : Nat} {v : Value} (hi : i < s.size) (h : ∀ j, j < i → valN (byteAt s j).toNat < base) (hb : base ≤ valN (byteAt s i).toNat)
    (hv : IsFault w' v 11 i) (hw : Below w.heap.size w w') : NumPost s base most w (.returned (.tuple #[.int .u64 0, v])) w' := by
  have e : numRes s base most = (0, 11, i) := by rw [numRes, if_neg (by omega), firstBad_some hi h hb]
  exact ⟨v, by rw [e]; rfl, .inr ⟨by rw [e]; exact (by decide : (11 : Nat) ≠ 0), _, by rw [e]; exact hv⟩, hw⟩
theorem NumPost.over {s : ByteArray} {base most : Nat} {w w' : World} {v : Value} (h0 : 0 < s.size) (h : ∀ j, j < s.size → valN (byteAt s j).toNat < base)
    (ho : 18446744073709551616 ≤ numTo base s s.size ∨ most < numTo base s s.size)
    (hv : IsFault w' v 16 0) (hw : Below w.heap.size w w') : NumPost s base most w (.returned (.tuple #[.int .u64 0, v])) w' := by
  have e : numRes s base most = (0, 16, 0) := by rw [numRes, if_neg (by omega), firstBad_none h]; exact if_pos ho
  exact ⟨v, by rw [e]; rfl, .inr ⟨by rw [e]; decide, _, by rw [e]; exact hv⟩, hw⟩
theorem NumPost.good {s : ByteArray} {base most : Nat} {w w' : World} {n : Int} (h0 : 0 < s.size) (h : ∀ j, j < s.size → valN (byteAt s j).toNat < base)
    (ho : ¬ (18446744073709551616 ≤ numTo base s s.size ∨ most < numTo base s s.size)) (hn : n = numTo base s s.size)
    (hw : Below w.heap.size w w') : NumPost s base most w (.returned (.tuple #[.int .u64 n, .nilIface])) w' := by
  have e : numRes s base most = (numTo base s s.size, 0, 0) := by rw [numRes, if_neg (by omega), firstBad_none h]; exact if_neg ho
  exact ⟨_, by rw [e, hn], .inl ⟨by rw [e], rfl⟩, hw⟩

/-- The state of the loop behind k bytes: the number as far as it fits; whether it does not. -/
def NumSt (base : Nat) (s : ByteArray) (k n : Nat) (o : Bool) : Prop := o = decide (18446744073709551616 ≤ numTo base s k) ∧ (numTo base s k < 18446744073709551616 → n = numTo base s k) ∧ ∀ j, j < k → valN (byteAt s j).toNat < base
theorem NumSt.zero (base : Nat) (s : ByteArray) : NumSt base s 0 0 false := ⟨rfl, fun _ => rfl, fun j hj => by omega⟩
theorem NumSt.step {base : Nat} {s : ByteArray} {k n hi lo sm c : Nat} {o : Bool} (hb : 1 ≤ base) (h : NumSt base s k n o) (hd : valN (byteAt s k).toNat < base)
    (h1 : hi * 18446744073709551616 + lo = n * base) (h2 : c * 18446744073709551616 + sm = lo + valN (byteAt s k).toNat) (h3 : sm < 18446744073709551616) (o' : Bool)
    (ho : o' = (o || decide (0 < hi + c))) : NumSt base s (k + 1) sm o' := by
  obtain ⟨e1, e2, e3⟩ := h
  have hle := numTo_le base s hb (Nat.le_succ k)
  refine ⟨?_, ?_, fun j hj => ?_⟩
  · rw [ho, e1]
    change numTo base s k ≤ numTo base s (k + 1) at hle
    by_cases hx : 18446744073709551616 ≤ numTo base s k
    · rw [decide_eq_true hx, decide_eq_true (Nat.le_trans hx hle)]; rfl
    · rw [decide_eq_false hx, Bool.false_or]
      have hn := e2 (by omega)
      rw [decide_eq_decide, numTo, ← hn, ← h1]
      omega
  · intro hlt
    have hn := e2 (Nat.lt_of_le_of_lt hle hlt)
    have : numTo base s (k + 1) = n * base + valN (byteAt s k).toNat := by rw [numTo, hn]
    omega
  · by_cases hjk : j = k
    · subst hjk; exact hd
    · exact e3 j (by omega)

theorem NumPost.none_ {s : ByteArray} {base most : Nat} {w w' : World} {v : Value} (h0 : s.size = 0)
    (hv : IsFault w' v 10 0) (hw : Below w.heap.size w w') : NumPost s base most w (.returned (.tuple #[.int .u64 0, v])) w' := by
  have e : numRes s base most = (0, 10, 0) := by rw [numRes, if_pos h0]
  exact ⟨v, by rw [e]; rfl, .inr ⟨by rw [e]; exact (by decide : (10 : Nat) ≠ 0), _, by rw [e]; exact hv⟩, hw⟩

set_option maxHeartbeats 1600000 in
set_option maxRecDepth 100000 in
theorem fold_number (s : ByteArray) (base most : Nat) (w : World) (hs : s.size ≤ 140737488351232) (hb : 2 ≤ base) (hb2 : base ≤ 16) (hm : most < 18446744073709551616) :
    Calls Tryd.prog 99 #[.string s, .int .u64 (base : Int), .int .u64 (most : Int)] w (NumPost s base most w) := by
  by_cases h0 : s.size = 0
  · have hne := isEmpty_yes h0
    have H0 := Lib.hid h0
    clear h0
    go_enter Tryd.func99, Tryd.ntmps99
    go_wp2_with fail
    refine (api_Fail' _ _ _).mono ?_
    rintro e w3 ⟨v, rfl, hv, hb3⟩
    go_wp2_with fail
    go_ret2
    exact NumPost.none_ H0.out hv hb3
  · have hne : s.toList.isEmpty = false := isEmpty_no (by omega)
    go_enter Tryd.func99, Tryd.ntmps99
    go_wp2_with ((with_reducible refine wpList_bytes (o := ⟨some 20, _, _, _, _, _⟩) rfl 9 23 5 _ rfl s rfl Tryd.underlying9 Tryd.underlying23 Tryd.underlying5 ?_); intro cap w1 hcap hB hb1 hsz1)
    have hszle : w.heap.size ≤ w1.heap.size := hb1.size
    clear hne hcap hsz1
    go_loop [6, 8, 22] (fun n o i => ∃ (k m : Nat) (ob : Bool), k ≤ s.size ∧ i = .int .i64 k ∧ n = .int .u64 m ∧ o = .bool ob ∧ m < 18446744073709551616 ∧ NumSt base s k m ob)
      (fun _ _ i => s.size - (intOf i).toNat)
    case atStart => exact ⟨0, 0, false, Nat.zero_le _, rfl, rfl, rfl, by omega, NumSt.zero _ _⟩
    case round =>
      obtain ⟨k, m, ob, hk, rfl, rfl, rfl, hm', hst⟩ := hrel
      have hcell : k < s.size → w1.cell? ⟨w.heap.size, k, none⟩ = some (.int .u8 ((byteAt s k).toNat : Int)) := fun h => hB.byte h
      by_cases hlt : k < s.size
      · have hby : (byteAt s k).toNat < 256 := (byteAt s k).toNat_lt
        by_cases hd : base ≤ valN (byteAt s k).toNat
        · go_wp2_with fail
          refine (fold_value _ hby _).mono ?_
          rintro e w2 ⟨rfl, rfl⟩
          go_wp2_with fail
          refine (api_Fail' _ _ _).mono ?_
          rintro e w3 ⟨v, rfl, hv, hb3⟩
          go_wp2_with fail
          go_ret2
          exact NumPost.bad hlt hst.2.2 hd hv (hb1.trans (hb3.mono hszle))
        · have hd' : valN (byteAt s k).toNat < base := by omega
          go_wp2_with fail
          refine (fold_value _ hby _).mono ?_
          rintro e w2 ⟨rfl, rfl⟩
          go_wp2_with fail
          refine (bits_Mul64 _ _ hm' (by omega) _).mono ?_
          rintro e w2 ⟨hi, lo, rfl, hmul, hlo, rfl⟩
          obtain ⟨sm, cy, hadd, hsum, hsm, hcy⟩ := bits_Add64 lo (valN (byteAt s k).toNat) hlo (by omega)
          have hhi : hi ≤ 15 := by
            have h1 := hmul.out
            have h2 : m * base ≤ 18446744073709551615 * 16 := Nat.mul_le_mul (by omega) hb2
            omega
          have hstep := fun o' ho => NumSt.step (by omega : 1 ≤ base) hst hd' hmul.out hsum.out hsm o' ho
          have HST := Lib.hid hstep
          clear hstep hst
          cases ob
          · go_wp2_with fail
            go_round
            case rel => exact ⟨k + 1, sm, decide (0 < hi + cy), by omega, by go_num, rfl, by congr 1; rw [decide_eq_decide]; omega, hsm, HST.out _ rfl⟩
            case measure => simp [intOf]; omega
          · go_wp2_with fail
            go_round
            case rel => exact ⟨k + 1, sm, true, by omega, by go_num, rfl, rfl, hsm, HST.out _ rfl⟩
            case measure => simp [intOf]; omega
      · obtain rfl : k = s.size := by omega
        have HST := Lib.hid hst
        clear hst
        cases ob
        · by_cases hmm : most < m
          · go_wp2_with fail
            refine (api_Fail' _ _ _).mono ?_
            rintro e w3 ⟨v, rfl, hv, hb3⟩
            go_wp2_with fail
            go_ret2
            refine NumPost.over (by omega) HST.out.2.2 ?_ hv (hb1.trans (hb3.mono hszle))
            by_cases hx : 18446744073709551616 ≤ numTo base s s.size
            · exact .inl hx
            · exact .inr (by rw [← HST.out.2.1 (by omega)]; exact hmm)
          · go_wp2_with fail
            go_ret2
            have hx : ¬ 18446744073709551616 ≤ numTo base s s.size := by
              have := HST.out.1
              simpa using this
            have hn := HST.out.2.1 (by omega)
            exact NumPost.good (by omega) HST.out.2.2 (by omega) (by rw [hn]) hb1
        · go_wp2_with fail
          refine (api_Fail' _ _ _).mono ?_
          rintro e w3 ⟨v, rfl, hv, hb3⟩
          go_wp2_with fail
          go_ret2
          have hx : 18446744073709551616 ≤ numTo base s s.size := by
            have := HST.out.1
            simpa using this
          exact NumPost.over (by omega) HST.out.2.2 (.inl hx) hv (hb1.trans (hb3.mono hszle))

theorem fold_Decimal (s : ByteArray) (most : Nat) (w : World) (hs : s.size ≤ 140737488351232) (hm : most < 18446744073709551616) :
    Calls Tryd.prog 63 #[.string s, .int .u64 (most : Int)] w (NumPost s 10 most w) := by
  go_enter Tryd.func63, Tryd.ntmps63
  go_wp2_with fail
  refine (fold_number s 10 most _ hs (by omega) (by omega) hm).mono ?_
  rintro e w1 ⟨v, rfl, hv, hb1⟩
  go_wp2_with fail
  go_ret2
  exact ⟨v, rfl, hv, hb1⟩
theorem fold_Hex (s : ByteArray) (most : Nat) (w : World) (hs : s.size ≤ 140737488351232) (hm : most < 18446744073709551616) :
    Calls Tryd.prog 183 #[.string s, .int .u64 (most : Int)] w (NumPost s 16 most w) := by
  go_enter Tryd.func183, Tryd.ntmps183
  go_wp2_with fail
  refine (fold_number s 16 most _ hs (by omega) (by omega) hm).mono ?_
  rintro e w1 ⟨v, rfl, hv, hb1⟩
  go_wp2_with fail
  go_ret2
  exact ⟨v, rfl, hv, hb1⟩

theorem cast_max : (((18446744073709551615 : Nat) : Nat) : Int) = 18446744073709551615 := rfl
theorem fold_Decimal_max (s : ByteArray) (w : World) (hs : s.size ≤ 140737488351232) : Calls Tryd.prog 63 #[.string s, .int .u64 18446744073709551615] w (NumPost s 10 18446744073709551615 w) := by
  have h := fold_Decimal s 18446744073709551615 w hs (by omega)
  rw [cast_max] at h
  exact h
theorem fold_Hex_max (s : ByteArray) (w : World) (hs : s.size ≤ 140737488351232) : Calls Tryd.prog 183 #[.string s, .int .u64 18446744073709551615] w (NumPost s 16 18446744073709551615 w) := by
  have h := fold_Hex s 18446744073709551615 w hs (by omega)
  rw [cast_max] at h
  exact h
/-- What is told where the number is right. -/
theorem NumPost.right {s : ByteArray} {base most n : Nat} {w w' : World} {e : Ending} (h : NumPost s base most w e w') (hr : numRes s base most = (n, 0, 0)) : e = .returned (.tuple #[.int .u64 (n : Int), .nilIface]) ∧ Below w.heap.size w w' := by
  obtain ⟨v, rfl, hv, hb⟩ := h
  rw [hr] at hv
  rcases hv with ⟨_, rfl⟩ | ⟨h, _⟩
  · exact ⟨by rw [hr], hb⟩
  · exact absurd rfl h
end Go.Proofs.YteabhblbefglpaaDoor

/- The reference's digit and Number: they are what fold.number tells. -/
namespace Go.Proofs.YteabhblbefglpaaDoor
open Go.RowKit

/-- The digits' list of the reference. -/
def hexs : ByteArray := ⟨#[48, 49, 50, 51, 52, 53, 54, 55, 56, 57, 97, 98, 99, 100, 101, 102]⟩
theorem hexs_find (n : Nat) (hn : n < 256) : (∀ k, k < 16 → ((hexs.data.toList.getD k 0).toNat = smallN n ↔ valN n = k)) ∧ (valN n < 16 ∨ valN n = 99) := by
  have : ∀ n : Fin 256, (∀ k : Fin 16, ((hexs.data.toList.getD k.1 0).toNat = smallN n.1 ↔ valN n.1 = k.1)) ∧ (valN n.1 < 16 ∨ valN n.1 = 99) := by decide +kernel
  have h := this ⟨n, hn⟩
  exact ⟨fun k hk => h.1 ⟨k, hk⟩, h.2⟩

set_option maxHeartbeats 1600000 in
set_option maxRecDepth 100000 in
theorem ref_digit (n : Nat) (hn : n < 256) (w : World) : Calls Tryd.prog 157 #[.int .u8 (n : Int)] w fun e w' => e = .returned (.int .u64 (valN n : Nat)) ∧ ∃ q, w.drewN q = w' := by
  obtain ⟨hf, hv⟩ := hexs_find n hn
  have HF := Lib.hid hf
  clear hf
  go_enter Tryd.func157, Tryd.ntmps157
  go_wp2_with fail
  go_loopw [4] (fun i wr => ∃ k q : Nat, k ≤ 16 ∧ i = .int .i64 k ∧ (∀ j, j < k → valN n ≠ j) ∧ w.drewN q = wr) (fun i _ => 16 - (intOf i).toNat)
  case atStart => exact ⟨0, 0, by omega, rfl, fun j hj => by omega, rfl⟩
  case round =>
    obtain ⟨k, q, hk, rfl, hall, hwr⟩ := hrel
    have HW := Lib.hid hwr
    have HA := Lib.hid hall
    clear hall hwr
    by_cases hlt : k < 16
    · have hcond := HF.out k hlt
      have i1 : (k : Int) < 16 := by omega
      have hbk : (hexs.data.toList.getD k 0) = (⟨#[48, 49, 50, 51, 52, 53, 54, 55, 56, 57, 97, 98, 99, 100, 101, 102]⟩ : ByteArray)[k]'hlt := by
        simp [hexs, List.getD, hlt]; rfl
      rw [hbk] at hcond
      clear hbk
      by_cases hc : valN n = k
      · have e1 := hcond.2 hc
        have e2 : ((((⟨#[48, 49, 50, 51, 52, 53, 54, 55, 56, 57, 97, 98, 99, 100, 101, 102]⟩ : ByteArray)[k]'hlt).toNat : Int) == (smallN n : Int)) = true := by
          rw [beq_iff_eq]; exact_mod_cast e1
        have HC := Lib.hid hc
        clear hc hcond e1
        go_wp2_with fail
        go_quiet ((go_at_call 121; exact Calls.quiet_of_same ((ref_Small n hn _).mono fun _ _ ⟨a, b⟩ => ⟨a, b.symm⟩)))
        go_wp2_with fail
        go_ret
        exact ⟨ret_u64 (by rw [HC.out]), _, by rw [← HW.out, World.drewN_drewN]⟩
      · have e2 : ((((⟨#[48, 49, 50, 51, 52, 53, 54, 55, 56, 57, 97, 98, 99, 100, 101, 102]⟩ : ByteArray)[k]'hlt).toNat : Int) == (smallN n : Int)) = false := by
          rw [beq_eq_false_iff_ne]
          intro h
          exact hc (hcond.1 (by exact_mod_cast h))
        have HC := Lib.hid hc
        clear hc hcond
        go_wp2_with fail
        go_quiet ((go_at_call 121; exact Calls.quiet_of_same ((ref_Small n hn _).mono fun _ _ ⟨a, b⟩ => ⟨a, b.symm⟩)))
        go_wp2_with fail
        go_roundw
        case rel => exact ⟨k + 1, _, by omega, by go_num, fun j hj => by
          by_cases hjk : j = k
          · subst hjk; exact HC.out
          · exact HA.out j (by omega), by rw [← HW.out, World.drewN_drewN]⟩
        case measure => simp [intOf]; omega
    · obtain rfl : k = 16 := by omega
      have h99 : valN n = 99 := by
        rcases hv with h | h
        · exact absurd rfl (HA.out _ h)
        · exact h
      have H99 := Lib.hid h99
      clear h99 hv
      go_wp2_with fail
      go_ret
      exact ⟨ret_u64 (by rw [H99.out]; rfl), _, HW.out⟩

theorem numRes_none {s : ByteArray} (base most : Nat) (h0 : s.size = 0) : numRes s base most = (0, 10, 0) := by rw [numRes, if_pos h0]
theorem numRes_bad {s : ByteArray} {base i : Nat} (most : Nat) (hi : i < s.size) (h : ∀ j, j < i → valN (byteAt s j).toNat < base) (hb : base ≤ valN (byteAt s i).toNat) : numRes s base most = (0, 11, i) := by
  rw [numRes, if_neg (by omega), firstBad_some hi h hb]
theorem numRes_over {s : ByteArray} {base most : Nat} (h0 : 0 < s.size) (h : ∀ j, j < s.size → valN (byteAt s j).toNat < base) (ho : 18446744073709551616 ≤ numTo base s s.size ∨ most < numTo base s s.size) : numRes s base most = (0, 16, 0) := by
  rw [numRes, if_neg (by omega), firstBad_none h]; exact if_pos ho
theorem numRes_good {s : ByteArray} {base most : Nat} (h0 : 0 < s.size) (h : ∀ j, j < s.size → valN (byteAt s j).toNat < base) (ho : ¬ (18446744073709551616 ≤ numTo base s s.size ∨ most < numTo base s s.size)) : numRes s base most = (numTo base s s.size, 0, 0) := by
  rw [numRes, if_neg (by omega), firstBad_none h]; exact if_neg ho

def RefNum (s : ByteArray) (base most : Nat) (w : World) (e : Ending) (w' : World) : Prop :=
  e = .returned (.tuple #[.int .u64 ((numRes s base most).1 : Int), .int .i64 ((numRes s base most).2.1 : Int), .int .i64 ((numRes s base most).2.2 : Int)]) ∧ ∃ q, w.drewN q = w'
theorem RefNum.mk' {s : ByteArray} {base most n k i : Nat} {w w' : World} (h : numRes s base most = (n, k, i)) {a b c : Int} (ha : a = n) (hb : b = k) (hc : c = i) (hw : ∃ q, w.drewN q = w') :
    RefNum s base most w (.returned (.tuple #[.int .u64 a, .int .i64 b, .int .i64 c])) w' := by
  refine ⟨?_, hw⟩
  rw [h, ha, hb, hc]

/-- The state of the reference's loop. -/
def RefSt (base : Nat) (s : ByteArray) (k n : Nat) (o : Bool) : Prop := NumSt base s k n o ∧ (o = true → n = 0)
theorem RefSt.over {base : Nat} {s : ByteArray} {k n : Nat} {o : Bool} (hb : 1 ≤ base) (h : RefSt base s k n o) (hd : valN (byteAt s k).toNat < base) (ho : o = true ∨ 18446744073709551615 < n * base + valN (byteAt s k).toNat) :
    RefSt base s (k + 1) 0 true := by
  obtain ⟨⟨e1, e2, e3⟩, e4⟩ := h
  have hle : numTo base s k ≤ numTo base s (k + 1) := numTo_le base s hb (Nat.le_succ k)
  have hbig : 18446744073709551616 ≤ numTo base s (k + 1) := by
    rcases ho with ho | ho
    · rw [ho] at e1
      have : 18446744073709551616 ≤ numTo base s k := by simpa using e1.symm
      omega
    · by_cases hx : 18446744073709551616 ≤ numTo base s k
      · omega
      · have hn := e2 (by omega)
        rw [numTo, ← hn]
        omega
  refine ⟨⟨by rw [decide_eq_true hbig], fun h => by omega, fun j hj => ?_⟩, fun _ => rfl⟩
  by_cases hjk : j = k
  · subst hjk; exact hd
  · exact e3 j (by omega)
theorem RefSt.fits {base : Nat} {s : ByteArray} {k n : Nat} (h : RefSt base s k n false) (hd : valN (byteAt s k).toNat < base) (ho : n * base + valN (byteAt s k).toNat ≤ 18446744073709551615) :
    RefSt base s (k + 1) (n * base + valN (byteAt s k).toNat) false := by
  obtain ⟨⟨e1, e2, e3⟩, e4⟩ := h
  have hx : ¬ 18446744073709551616 ≤ numTo base s k := by simpa using e1.symm
  have hn := e2 (by omega)
  have he : numTo base s (k + 1) = n * base + valN (byteAt s k).toNat := by rw [numTo, hn]
  refine ⟨⟨?_, fun _ => he.symm, fun j hj => ?_⟩, fun h => by cases h⟩
  · rw [he, decide_eq_false (by omega)]
  · by_cases hjk : j = k
    · subst hjk; exact hd
    · exact e3 j (by omega)

theorem ref_over {m base d : Nat} (hb : 2 ≤ base) (h : 18446744073709551615 < m * base + d) : (18446744073709551615 - (d : Int)) / (base : Int) < (m : Int) := by
  refine Int.ediv_lt_of_lt_mul (by omega) ?_
  have : (18446744073709551615 : Int) < ((m * base + d : Nat) : Int) := by omega
  rw [Int.natCast_add, Int.natCast_mul] at this
  omega
theorem ref_fits2 {m base d : Nat} (h : m * base + d ≤ 18446744073709551615) : (m : Int) * (base : Int) + (d : Int) ≤ 18446744073709551615 := by
  have : ((m * base + d : Nat) : Int) ≤ 18446744073709551615 := by omega
  rw [Int.natCast_add, Int.natCast_mul] at this
  exact this
theorem ref_fits {m base d : Nat} (hb : 2 ≤ base) (h : m * base + d ≤ 18446744073709551615) : (m : Int) ≤ (18446744073709551615 - (d : Int)) / (base : Int) := by
  refine Int.le_ediv_of_mul_le (by omega) ?_
  have := ref_fits2 h
  omega

set_option maxHeartbeats 1600000 in
set_option maxRecDepth 100000 in
theorem ref_Number (s : ByteArray) (base most : Nat) (w : World) (hs : s.size ≤ 140737488351232) (hb : 2 ≤ base) (hb2 : base ≤ 16) (hm : most < 18446744073709551616) :
    Calls Tryd.prog 128 #[.string s, .int .u64 (base : Int), .int .u64 (most : Int)] w (RefNum s base most w) := by
  by_cases h0 : s.size = 0
  · have hr := Lib.hid (numRes_none base most h0)
    have hz : ((s.size : Int) == 0) = true := by rw [h0]; rfl
    clear h0
    go_enter Tryd.func128, Tryd.ntmps128
    go_wp2_with fail
    go_ret3
    exact RefNum.mk' hr.out rfl rfl rfl ⟨0, rfl⟩
  · have hz : ((s.size : Int) == 0) = false := by rw [beq_eq_false_iff_ne]; omega
    go_enter Tryd.func128, Tryd.ntmps128
    go_wp2_with fail
    go_loopw [9, 10, 11] (fun n o i wr => ∃ (k m : Nat) (ob : Bool), k ≤ s.size ∧ i = .int .i64 k ∧ n = .int .u64 m ∧ o = .bool ob ∧ m < 18446744073709551616 ∧ RefSt base s k m ob ∧ ∃ q, w.drewN q = wr)
      (fun _ _ i _ => s.size - (intOf i).toNat)
    case atStart => exact ⟨0, 0, false, Nat.zero_le _, rfl, rfl, rfl, by omega, ⟨NumSt.zero _ _, fun h => by cases h⟩, 0, rfl⟩
    case round =>
      obtain ⟨k, m, ob, hk, rfl, rfl, rfl, hm', hst, hwr⟩ := hrel
      have HST := Lib.hid hst
      have HW := Lib.hid hwr
      clear hst hwr hz
      by_cases hlt : k < s.size
      · have hbk : s[k] = byteAt s k := by simp [byteAt, List.getD, hlt]; rfl
        have hby : (byteAt s k).toNat < 256 := (byteAt s k).toNat_lt
        have HBK := Lib.hid hbk
        clear hbk
        go_wp2_with fail
        rw [HBK.out]
        refine (ref_digit _ hby _).mono ?_
        rintro e w2 ⟨rfl, q2, hq2⟩
        have HW2 : Hid (∃ q, w.drewN q = w2) := Lib.hid (by obtain ⟨q, hq⟩ := HW.out; exact ⟨q + q2, by rw [← hq2, ← hq, World.drewN_drewN]⟩)
        clear hq2 HW
        generalize hdv : valN (byteAt s k).toNat = d
        have HDV := Lib.hid hdv
        clear hdv
        by_cases hd : base ≤ d
        · go_wp2_with fail
          go_ret3
          exact RefNum.mk' (numRes_bad most hlt HST.out.1.2.2 (by rw [HDV.out]; exact hd)) rfl rfl rfl HW2.out
        · have hd' : d < base := by omega
          have hq0 : (0 : Int) ≤ (18446744073709551615 - (d : Int)) / (base : Int) := Int.ediv_nonneg (by omega) (by omega)
          have hq1 : (18446744073709551615 - (d : Int)) / (base : Int) ≤ 18446744073709551615 - (d : Int) := Int.ediv_le_self _ (by omega)
          cases ob
          · by_cases ho : 18446744073709551615 < m * base + d
            · have t1 : (18446744073709551615 - (d : Int)) / (base : Int) < (m : Int) := ref_over hb ho
              have hn := Lib.hid (RefSt.over (by omega) HST.out (by rw [HDV.out]; exact hd') (.inr (by rw [HDV.out]; exact ho)))
              go_wp2_with fail
              go_roundw
              case rel => exact ⟨k + 1, 0, true, by omega, by go_num, rfl, rfl, by omega, hn.out, HW2.out⟩
              case measure => simp [intOf]; omega
            · have t1 : (m : Int) ≤ (18446744073709551615 - (d : Int)) / (base : Int) := ref_fits hb (Nat.le_of_not_lt ho)
              have t2 : (m : Int) * (base : Int) + (d : Int) ≤ 18446744073709551615 := ref_fits2 (Nat.le_of_not_lt ho)
              have t3 : 0 ≤ (m : Int) * (base : Int) := Int.mul_nonneg (by omega) (by omega)
              have hn := Lib.hid (RefSt.fits HST.out (by rw [HDV.out]; exact hd') (by rw [HDV.out]; omega))
              go_wp2_with fail
              go_roundw
              case rel => exact ⟨k + 1, m * base + d, false, by omega, by go_num, by rw [Int.natCast_add, Int.natCast_mul], rfl, by omega, by have := hn.out; rw [HDV.out] at this; exact this, HW2.out⟩
              case measure => simp [intOf]; omega
          · obtain rfl : m = 0 := HST.out.2 rfl
            have hn := Lib.hid (RefSt.over (by omega) HST.out (by rw [HDV.out]; exact hd') (.inl rfl))
            go_wp2_with fail
            go_roundw
            case rel => exact ⟨k + 1, 0, true, by omega, by go_num, rfl, rfl, by omega, hn.out, HW2.out⟩
            case measure => simp [intOf]; omega
      · obtain rfl : k = s.size := by omega
        cases ob
        · by_cases hmm : most < m
          · go_wp2_with fail
            go_ret3
            refine RefNum.mk' (numRes_over (by omega) HST.out.1.2.2 ?_) rfl rfl rfl HW.out
            by_cases hx : 18446744073709551616 ≤ numTo base s s.size
            · exact .inl hx
            · exact .inr (by rw [← HST.out.1.2.1 (by omega)]; exact hmm)
          · go_wp2_with fail
            go_ret3
            have hx : ¬ 18446744073709551616 ≤ numTo base s s.size := by simpa using HST.out.1.1.symm
            have hn := HST.out.1.2.1 (by omega)
            exact RefNum.mk' (numRes_good (by omega) HST.out.1.2.2 (by omega)) (by rw [hn]) rfl rfl HW.out
        · go_wp2_with fail
          go_ret3
          have hx : 18446744073709551616 ≤ numTo base s s.size := by simpa using HST.out.1.1.symm
          exact RefNum.mk' (numRes_over (by omega) HST.out.1.2.2 (.inl hx)) rfl rfl rfl HW.out
end Go.Proofs.YteabhblbefglpaaDoor
