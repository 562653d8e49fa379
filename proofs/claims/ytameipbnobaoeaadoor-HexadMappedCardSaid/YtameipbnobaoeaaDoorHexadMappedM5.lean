/- Plain: an address's text of one part; a number's figures of bases 10, 8 and 16. -/
import Derived.Test.YtameipbnobaoeaaDoorHexadMappedM4
import Derived.Test.YtameipbnobaoeaaDoorHexadMappedM2

namespace Go.Proofs.YtameipbnobaoeaaDoor

theorem cutAt_free {t : ByteArray} (h : ∀ j, j < t.size → byteAt t j ≠ 46) : ∀ k, k ≤ t.size → cutAt t 46 k = ([], 0) := by
  intro k
  induction k with
  | zero => intro _; rfl
  | succ k ih =>
    intro hk
    rw [cutAt, if_neg (h k (by omega))]
    exact ih (by omega)
theorem whole' (s : ByteArray) : s.extract 0 s.size = s := by
  apply ByteArray.ext
  apply Array.ext'
  rw [Lib.extract_data]
  have hl : s.data.toList.length = s.size := rfl
  rw [List.drop_zero, Nat.sub_zero, ← hl, List.take_length]
theorem fields_one {t : ByteArray} (h : ∀ j, j < t.size → byteAt t j ≠ 46) : fieldsB t 46 = [t] := by
  unfold fieldsB
  rw [cutAt_free h _ (Nat.le_refl _)]
  simp [whole']
theorem over_one {t : ByteArray} (h : ∀ j, j < t.size → byteAt t j ≠ 46) : overB t 46 4 = none := over_none (by rw [cutAt_free h _ (Nat.le_refl _)]; simp)
/-- A text that is one right part. -/
theorem parse_one {s t : ByteArray} (hc : cutP s = t) (h : ∀ j, j < t.size → byteAt t j ≠ 46) (hb : badQ t = none) (hn : numQ t < 4294967296) : parseQ s = (numQ t, 0, 0) := by
  have h1 : overB (cutP s) 46 4 = none := by rw [hc]; exact over_one h
  have h2 : fieldsB (cutP s) 46 = [t] := by rw [hc]; exact fields_one h
  have hl : limQ 0 1 = 4294967295 := by decide
  have hw : wtQ 0 1 = 1 := by decide
  have hs : sumQ 1 [t] 0 0 0 = (numQ t, none) := by
    rw [sumQ, hl, if_neg (by omega), sumQ, hw, Nat.mul_one, Nat.zero_add]
  have hk : checkQ [t] 0 = none := by rw [check_yes hb, checkQ]
  refine parse_good h1 ?_ ?_
  · rw [h2]; exact hk
  · rw [h2]; exact hs
/-- A number's k lowest figures, the highest first. -/
def dF (f : Nat → UInt8) (b : Nat) : Nat → Nat → List UInt8
  | 0, _ => []
  | k + 1, n => f (n / b ^ k % b) :: dF f b k n
theorem dF_len (f : Nat → UInt8) (b k n : Nat) : (dF f b k n).length = k := by
  induction k with
  | zero => rfl
  | succ k ih => simp [dF, ih]
theorem dF_snoc (f : Nat → UInt8) (b k n : Nat) : dF f b (k + 1) n = dF f b k (n / b) ++ [f (n % b)] := by
  induction k with
  | zero => simp [dF]
  | succ k ih =>
    rw [dF, ih, dF, Nat.div_div_eq_div_mul, ← Nat.pow_succ', List.cons_append]
theorem dF_mem (f : Nat → UInt8) (b k n : Nat) (hb : 0 < b) : ∀ c ∈ dF f b k n, ∃ d, d < b ∧ c = f d := by
  induction k with
  | zero => intro c hc; cases hc
  | succ k ih =>
    intro c hc
    rcases List.mem_cons.1 hc with rfl | hc
    · exact ⟨_, Nat.mod_lt _ hb, rfl⟩
    · exact ih c hc
theorem numL_dF {f : Nat → UInt8} {b : Nat} (hb : 2 ≤ b) (hf : ∀ d, d < b → valN (f d).toNat = d) (k : Nat) : ∀ n, n < b ^ k → numL b (dF f b k n) = n := by
  induction k with
  | zero => intro n h; simp at h; subst h; rfl
  | succ k ih =>
    intro n h
    have hd : n / b < b ^ k := by
      rw [Nat.div_lt_iff_lt_mul (by omega), ← Nat.pow_succ]
      exact h
    rw [dF_snoc, numL, List.foldl_append]
    simp only [List.foldl_cons, List.foldl_nil]
    have := ih (n / b) hd
    rw [numL] at this
    rw [this, hf _ (Nat.mod_lt _ (by omega))]
    have := Nat.div_add_mod n b
    rw [Nat.mul_comm] at this
    exact this
theorem byteAt_ofL {l : List UInt8} {j : Nat} (h : j < l.length) : byteAt (ofL l) j ∈ l := by
  have e : byteAt (ofL l) j = l.getD j 0 := rfl
  rw [e, List.getD, List.getElem?_eq_getElem h]
  exact List.getElem_mem h
theorem numTo_ofL (b : Nat) (l : List UInt8) : numTo b (ofL l) (ofL l).size = numL b l := by
  rw [numTo_numL _ _ _ (Nat.le_refl _)]
  have e : (ofL l).data.toList = l := rfl
  rw [e, ofL_size, List.take_length]
def fig8 (d : Nat) : UInt8 := UInt8.ofNat (48 + d)
def mixQ : ByteArray := ⟨#[48, 49, 50, 51, 52, 53, 54, 55, 56, 57, 97, 66, 99, 68, 101, 70]⟩
def figM (d : Nat) : UInt8 := byteAt mixQ d
theorem fig8_val : ∀ d, d < 10 → valN (fig8 d).toNat = d := by
  have : ∀ d : Fin 10, valN (fig8 d.1).toNat = d.1 := by decide
  exact fun d h => this ⟨d, h⟩
theorem figM_val : ∀ d, d < 16 → valN (figM d).toNat = d := by
  have : ∀ d : Fin 16, valN (figM d.1).toNat = d.1 := by decide +kernel
  exact fun d h => this ⟨d, h⟩
theorem fig8_in (d : Nat) (h : d < 10) : fig8 d ≠ 46 ∧ hasB decQ (fig8 d) = true ∧ (d < 8 → hasB octQ (fig8 d) = true) ∧ (fig8 d).toNat ≠ 120 ∧ (fig8 d).toNat ≠ 88 ∧ (d ≠ 0 → fig8 d ≠ 48) := by
  have : ∀ d : Fin 10, fig8 d.1 ≠ 46 ∧ hasB decQ (fig8 d.1) = true ∧ (d.1 < 8 → hasB octQ (fig8 d.1) = true) ∧ (fig8 d.1).toNat ≠ 120 ∧ (fig8 d.1).toNat ≠ 88 ∧ (d.1 ≠ 0 → fig8 d.1 ≠ 48) := by decide +kernel
  exact this ⟨d, h⟩
theorem figM_in (d : Nat) (h : d < 16) : figM d ≠ 46 ∧ hasB hexQ (figM d) = true := by
  have : ∀ d : Fin 16, figM d.1 ≠ 46 ∧ hasB hexQ (figM d.1) = true := by decide +kernel
  exact this ⟨d, h⟩
theorem bad_none {t : ByteArray} (h0 : t.size ≠ 0) (h : ∀ j, j < (digsQ t).size → hasB (formQ t).2.2 (byteAt (digsQ t) j) = true) : badQ t = none := by
  unfold badQ
  rw [if_neg h0, firstOut_none h]
theorem ofL_drop (l m : List UInt8) (k : Nat) (h : l.length = k) : (ofL (l ++ m)).extract k (ofL (l ++ m)).size = ofL m := by
  apply ByteArray.ext
  apply Array.ext'
  rw [Lib.extract_data]
  show ((l ++ m).drop k).take _ = m
  rw [List.drop_append_of_le_length (by omega), List.drop_of_length_le (by omega), List.nil_append, ofL_size, List.length_append, List.take_of_length_le (by omega)]
/-- Digits of base 16 behind 0x. -/
theorem parse_hex (k n : Nat) (h : n < 16 ^ k) (hn : n < 4294967296) : parseQ (ofL ([48, 120] ++ dF figM 16 k n)) = (n, 0, 0) := by
  have hmem := dF_mem figM 16 k n (by omega)
  have hsz : (ofL ([48, 120] ++ dF figM 16 k n)).size = k + 2 := by rw [ofL_size, List.length_append, dF_len]; simp; omega
  have hb0 : byteAt (ofL ([48, 120] ++ dF figM 16 k n)) 0 = 48 := rfl
  have hb1 : byteAt (ofL ([48, 120] ++ dF figM 16 k n)) 1 = 120 := rfl
  have hx : hexedB (ofL ([48, 120] ++ dF figM 16 k n)) = true := by unfold hexedB; rw [hb0, hb1, hsz]; simp
  have hf := formQ_hex hx
  have hd : digsQ (ofL ([48, 120] ++ dF figM 16 k n)) = ofL (dF figM 16 k n) := by
    unfold digsQ; rw [hf]; exact ofL_drop _ _ 2 rfl
  have hno : ∀ j, j < (ofL ([48, 120] ++ dF figM 16 k n)).size → byteAt (ofL ([48, 120] ++ dF figM 16 k n)) j ≠ 46 := fun j hj => by
    rw [ofL_size] at hj
    have := byteAt_ofL hj
    rcases List.mem_append.1 this with h | h
    · intro e; rw [e] at h; revert h; decide
    · obtain ⟨d, hd, e⟩ := hmem _ h
      rw [e]; exact (figM_in d hd).1
  have hnum : numQ (ofL ([48, 120] ++ dF figM 16 k n)) = n := by
    unfold numQ; rw [hd, hf, numTo_ofL]; exact numL_dF (by omega) figM_val k n h
  have hbad : badQ (ofL ([48, 120] ++ dF figM 16 k n)) = none := bad_none (by omega) (fun j hj => by
    rw [hd, ofL_size] at hj
    obtain ⟨d, hd', e⟩ := hmem _ (byteAt_ofL hj)
    rw [hd, hf, e]; exact (figM_in d hd').2)
  have hcut : cutP (ofL ([48, 120] ++ dF figM 16 k n)) = ofL ([48, 120] ++ dF figM 16 k n) := by
    unfold cutP
    rw [if_neg]
    rintro ⟨h1, h2⟩
    exact hno _ (by omega) h2
  rw [parse_one hcut hno hbad (by omega), hnum]
/-- Digits of base 8 behind 0, a point behind them. -/
theorem parse_oct (k n : Nat) (h : n < 8 ^ k) (hn : n < 4294967296) : parseQ (ofL ([48] ++ dF fig8 8 k n ++ [46])) = (n, 0, 0) := by
  have hmem := dF_mem fig8 8 k n (by omega)
  have hsz : (ofL ([48] ++ dF fig8 8 k n)).size = k + 1 := by rw [ofL_size, List.length_append, dF_len]; simp; omega
  have hno : ∀ j, j < (ofL ([48] ++ dF fig8 8 k n)).size → byteAt (ofL ([48] ++ dF fig8 8 k n)) j ≠ 46 := fun j hj => by
    rw [ofL_size] at hj
    have := byteAt_ofL hj
    rcases List.mem_append.1 this with h | h
    · intro e; rw [e] at h; revert h; decide
    · obtain ⟨d, hd, e⟩ := hmem _ h
      rw [e]; exact (fig8_in d (by omega)).1
  have hcut : cutP (ofL ([48] ++ dF fig8 8 k n ++ [46])) = ofL ([48] ++ dF fig8 8 k n) := by
    have hs2 : (ofL ([48] ++ dF fig8 8 k n ++ [46])).size = k + 2 := by rw [ofL_size, List.length_append, List.length_append, dF_len]; simp; omega
    have hl : byteAt (ofL ([48] ++ dF fig8 8 k n ++ [46])) (k + 1) = 46 := by
      show ([48] ++ dF fig8 8 k n ++ [46]).getD (k + 1) 0 = 46
      have hl2 : ([48] ++ dF fig8 8 k n).length = k + 1 := by rw [List.length_append, dF_len]; simp; omega
      rw [List.getD, List.getElem?_append_right (by omega), hl2, Nat.sub_self]
      rfl
    have h1 : 1 < (ofL ([48] ++ dF fig8 8 k n ++ [46])).size := by rw [hs2]; omega
    have hm : (ofL ([48] ++ dF fig8 8 k n ++ [46])).size - 1 = k + 1 := by rw [hs2]; omega
    unfold cutP
    rw [hm, if_pos ⟨h1, hl⟩]
    apply ByteArray.ext
    apply Array.ext'
    rw [Lib.extract_data]
    show (([48] ++ dF fig8 8 k n ++ [46]).drop 0).take (k + 1 - 0) = _
    rw [List.drop_zero, Nat.sub_zero, List.take_append_of_le_length (by rw [List.length_append, dF_len]; simp; omega), List.take_of_length_le (by rw [List.length_append, dF_len]; simp; omega)]
    rfl
  have hb0 : byteAt (ofL ([48] ++ dF fig8 8 k n)) 0 = 48 := rfl
  cases k with
  | zero =>
    have h0 : n = 0 := by simpa using h
    subst h0
    decide +kernel
  | succ k =>
    have hb1 : ∃ d, d < 8 ∧ byteAt (ofL ([48] ++ dF fig8 8 (k + 1) n)) 1 = fig8 d := ⟨_, Nat.mod_lt (n / 8 ^ k) (by omega), rfl⟩
    obtain ⟨d1, hd1, hb1⟩ := hb1
    have hx : hexedB (ofL ([48] ++ dF fig8 8 (k + 1) n)) = false := by
      unfold hexedB
      rw [hb1]
      have := fig8_in d1 (by omega)
      simp [this.2.2.2.1, this.2.2.2.2.1]
    have ho : octB (ofL ([48] ++ dF fig8 8 (k + 1) n)) = true := by unfold octB; rw [hb0, hsz]; simp
    have hf := formQ_oct hx ho
    have hd : digsQ (ofL ([48] ++ dF fig8 8 (k + 1) n)) = ofL (dF fig8 8 (k + 1) n) := by
      unfold digsQ; rw [hf]; exact ofL_drop _ _ 1 rfl
    have hnum : numQ (ofL ([48] ++ dF fig8 8 (k + 1) n)) = n := by
      unfold numQ; rw [hd, hf, numTo_ofL]; exact numL_dF (by omega) (fun d hd => fig8_val d (by omega)) (k + 1) n h
    have hbad : badQ (ofL ([48] ++ dF fig8 8 (k + 1) n)) = none := bad_none (by omega) (fun j hj => by
      rw [hd, ofL_size] at hj
      obtain ⟨d, hd', e⟩ := hmem _ (byteAt_ofL hj)
      rw [hd, hf, e]; exact (fig8_in d (by omega)).2.2.1 hd')
    rw [parse_one hcut hno hbad (by omega), hnum]
/-- Digits of base 10, the first of them no nought. -/
theorem parse_dec (k n : Nat) (h : n < 10 ^ (k + 1)) (hn : n < 4294967296) (h1 : 10 ^ k ≤ n) : parseQ (ofL (dF fig8 10 (k + 1) n)) = (n, 0, 0) := by
  have hmem := dF_mem fig8 10 (k + 1) n (by omega)
  have hsz : (ofL (dF fig8 10 (k + 1) n)).size = k + 1 := by rw [ofL_size, dF_len]
  have hno : ∀ j, j < (ofL (dF fig8 10 (k + 1) n)).size → byteAt (ofL (dF fig8 10 (k + 1) n)) j ≠ 46 := fun j hj => by
    rw [ofL_size] at hj
    obtain ⟨d, hd, e⟩ := hmem _ (byteAt_ofL hj)
    rw [e]; exact (fig8_in d hd).1
  have hcut : cutP (ofL (dF fig8 10 (k + 1) n)) = ofL (dF fig8 10 (k + 1) n) := by
    unfold cutP
    rw [if_neg]
    rintro ⟨h1, h2⟩
    exact hno _ (by omega) h2
  have hp : 0 < 10 ^ k := Nat.pow_pos (by omega)
  have hq : n / 10 ^ k < 10 := by rw [Nat.div_lt_iff_lt_mul hp, Nat.mul_comm, ← Nat.pow_succ]; exact h
  have hq1 : 1 ≤ n / 10 ^ k := by rw [Nat.le_div_iff_mul_le hp]; omega
  have hb0 : byteAt (ofL (dF fig8 10 (k + 1) n)) 0 = fig8 (n / 10 ^ k % 10) := rfl
  have hb00 : byteAt (ofL (dF fig8 10 (k + 1) n)) 0 ≠ 48 := by
    rw [hb0, Nat.mod_eq_of_lt hq]
    exact (fig8_in _ hq).2.2.2.2.2 (by omega)
  have hx : hexedB (ofL (dF fig8 10 (k + 1) n)) = false := by unfold hexedB; simp [hb00]
  have ho : octB (ofL (dF fig8 10 (k + 1) n)) = false := by unfold octB; simp [hb00]
  have hf := formQ_dec hx ho
  have hd : digsQ (ofL (dF fig8 10 (k + 1) n)) = ofL (dF fig8 10 (k + 1) n) := by
    unfold digsQ; rw [hf]; exact whole' _
  have hnum : numQ (ofL (dF fig8 10 (k + 1) n)) = n := by
    unfold numQ; rw [hd, hf, numTo_ofL]; exact numL_dF (by omega) fig8_val (k + 1) n h
  have hbad : badQ (ofL (dF fig8 10 (k + 1) n)) = none := bad_none (by omega) (fun j hj => by
    rw [hd, ofL_size] at hj
    obtain ⟨d, hd', e⟩ := hmem _ (byteAt_ofL hj)
    rw [hd, hf, e]; exact (fig8_in d hd').2.1)
  rw [parse_one hcut hno hbad (by omega), hnum]
end Go.Proofs.YtameipbnobaoeaaDoor

/- quad.hexed, part, number, checked. -/
namespace Go.Proofs.YtameipbnobaoeaaDoor
open Go.RowKit

theorem or_x (n : Nat) (h : n < 256) : ((bits .or .u8 (n : Int) 32 == 120) : Bool) = (decide (n = 120) || decide (n = 88)) := by
  have : ∀ n : Fin 256, ((bits .or .u8 (n.1 : Int) 32 == 120) : Bool) = (decide (n.1 = 120) || decide (n.1 = 88)) := by decide +kernel
  exact this ⟨n, h⟩
set_option maxHeartbeats 800000 in
theorem quad_hexed (s : ByteArray) (hs : s.size ≤ 16777216) (w : World) : Calls Tryd.prog 78 #[.string s] w fun e w' => e = .returned (.tuple #[.string (if hexedB s = true then s.extract 2 s.size else ⟨#[]⟩), .bool (hexedB s)]) ∧ w = w' := by
  by_cases h1 : 1 < s.size
  · have g0 : 0 < s.size := by omega
    have b0 := byteAt_idx g0
    have b1 := byteAt_idx h1
    have hd : decide ((1 : Int) < (s.size : Int)) = true := decide_eq_true (by omega)
    have h1I : (1 : Int) < (s.size : Int) := by omega
    have h2I : (2 : Int) ≤ (s.size : Int) := by omega
    have hor := or_x (byteAt s 1).toNat (byteAt s 1).toNat_lt
    have hx : hexedB s = (decide (byteAt s 0 = 48) && (decide ((byteAt s 1).toNat = 120) || decide ((byteAt s 1).toNat = 88))) := by unfold hexedB; rw [decide_eq_true h1, Bool.true_and]
    rw [← hor] at hx
    clear hor
    by_cases h0 : byteAt s 0 = 48
    · have e0 : (((byteAt s 0).toNat : Int) == 48) = true := by rw [h0]; rfl
      rw [decide_eq_true h0, Bool.true_and] at hx
      rw [hx]
      clear hx h0
      generalize hq : (bits .or .u8 ((byteAt s 1).toNat : Int) 32 == 120) = q at *
      cases q
      all_goals
        go_enter Tryd.func78, Tryd.ntmps78
        go_wp2_with fail
        go_ret2
        exact ⟨rfl, rfl⟩
    · have e0 : (((byteAt s 0).toNat : Int) == 48) = false := u8_ne' (b := 48) h0
      rw [decide_eq_false h0, Bool.false_and] at hx
      rw [hx]
      clear hx h0
      go_enter Tryd.func78, Tryd.ntmps78
      go_wp2_with fail
      go_ret2
      exact ⟨rfl, rfl⟩
  · have hx : hexedB s = false := by unfold hexedB; rw [decide_eq_false h1, Bool.false_and]
    rw [hx]
    go_enter Tryd.func78, Tryd.ntmps78
    go_wp2_with fail
    go_ret2
    exact ⟨rfl, rfl⟩

theorem digsQ_of {s : ByteArray} {b k : Nat} {m : ByteArray} (h : formQ s = (b, k, m)) : digsQ s = s.extract k s.size := by unfold digsQ; rw [h]
theorem whole (s : ByteArray) : s.extract 0 s.size = s := by
  apply ByteArray.ext
  apply Array.ext'
  rw [Lib.extract_data]
  have hl : s.data.toList.length = s.size := rfl
  rw [List.drop_zero, Nat.sub_zero, ← hl, List.take_length]
theorem ret_part {a b c d : ByteArray} {x y : Int} (h1 : a = b) (h2 : x = y) (h3 : c = d) : Ending.returned (.tuple #[.string a, .int .i64 x, .string c]) = .returned (.tuple #[.string b, .int .i64 y, .string d]) := by rw [h1, h2, h3]
set_option maxHeartbeats 800000 in
theorem quad_part (s : ByteArray) (hs : s.size ≤ 16777216) (w : World) : Calls Tryd.prog 71 #[.string s] w fun e w' => e = .returned (.tuple #[.string (digsQ s), .int .i64 ((formQ s).2.1 : Nat), .string (formQ s).2.2]) ∧ w = w' := by
  have cH := Lib.hid (fun W => quad_hexed s hs W)
  rcases formQ_three s with ⟨hx, hf, h2⟩ | ⟨hx, ho, hf, h2⟩ | ⟨hx, ho, hf⟩
  · have hd := digsQ_of hf
    rw [hx] at cH
    rw [hf, hd]
    clear hf hd hx
    go_enter Tryd.func71, Tryd.ntmps71
    go_wp2_with fail
    refine (cH.out _).mono ?_
    rintro e w2 ⟨rfl, rfl⟩
    go_wp2_with fail
    go_ret3
    exact ⟨rfl, rfl⟩
  · have hd := digsQ_of hf
    rw [hx] at cH
    rw [hf, hd]
    have g0 : 0 < s.size := by omega
    have b0 := byteAt_idx g0
    have h1I : (1 : Int) < (s.size : Int) := by omega
    have hd1 : decide ((1 : Int) < (s.size : Int)) = true := decide_eq_true h1I
    have h0 : byteAt s 0 = 48 := by unfold octB at ho; simp at ho; exact ho.2
    have e0 : (((byteAt s 0).toNat : Int) == 48) = true := by rw [h0]; rfl
    clear hf hd hx ho h0
    go_enter Tryd.func71, Tryd.ntmps71
    go_wp2_with fail
    refine (cH.out _).mono ?_
    rintro e w2 ⟨rfl, rfl⟩
    go_wp2_with fail
    go_ret3
    exact ⟨rfl, rfl⟩
  · have hd := digsQ_of hf
    rw [whole] at hd
    rw [hx] at cH
    rw [hf, hd]
    clear hf hd hx
    by_cases h1 : 1 < s.size
    · have g0 : 0 < s.size := by omega
      have b0 := byteAt_idx g0
      have h1I : (1 : Int) < (s.size : Int) := by omega
      have hd1 : decide ((1 : Int) < (s.size : Int)) = true := decide_eq_true h1I
      have h0 : byteAt s 0 ≠ 48 := by unfold octB at ho; simpa [h1] using ho
      have e0 : (((byteAt s 0).toNat : Int) == 48) = false := u8_ne' (b := 48) h0
      clear ho h0
      go_enter Tryd.func71, Tryd.ntmps71
      go_wp2_with fail
      refine (cH.out _).mono ?_
      rintro e w2 ⟨rfl, rfl⟩
      go_wp2_with fail
      go_ret3
      exact ⟨rfl, rfl⟩
    · have hd1 : decide ((1 : Int) < (s.size : Int)) = false := decide_eq_false (by omega)
      clear ho
      go_enter Tryd.func71, Tryd.ntmps71
      go_wp2_with fail
      refine (cH.out _).mono ?_
      rintro e w2 ⟨rfl, rfl⟩
      go_wp2_with fail
      go_ret3
      exact ⟨rfl, rfl⟩
end Go.Proofs.YtameipbnobaoeaaDoor
