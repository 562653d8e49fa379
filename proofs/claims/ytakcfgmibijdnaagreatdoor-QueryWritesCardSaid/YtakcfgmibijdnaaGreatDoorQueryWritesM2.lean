/- The reference's digit and Number: they are what fold.number tells. -/
import Derived.Test.YtakcfgmibijdnaaGreatDoorQueryWritesM1

namespace Go.Proofs.YtakcfgmibijdnaaGreatDoor
open Go.RowKit

/-- The digits' list of the reference. -/
def hexs : ByteArray := ⟨#[48, 49, 50, 51, 52, 53, 54, 55, 56, 57, 97, 98, 99, 100, 101, 102]⟩
theorem hexs_find (n : Nat) (hn : n < 256) : (∀ k, k < 16 → ((hexs.data.toList.getD k 0).toNat = smallN n ↔ valN n = k)) ∧ (valN n < 16 ∨ valN n = 99) := by
  have : ∀ n : Fin 256, (∀ k : Fin 16, ((hexs.data.toList.getD k.1 0).toNat = smallN n.1 ↔ valN n.1 = k.1)) ∧ (valN n.1 < 16 ∨ valN n.1 = 99) := by decide +kernel
  have h := this ⟨n, hn⟩
  exact ⟨fun k hk => h.1 ⟨k, hk⟩, h.2⟩

theorem numRes_none {s : ByteArray} (base most : Nat) (h0 : s.size = 0) : numRes s base most = (0, 10, 0) := by rw [numRes, if_pos h0]
theorem numRes_bad {s : ByteArray} {base i : Nat} (most : Nat) (hi : i < s.size) (h : ∀ j, j < i → valN (byteAt s j).toNat < base) (hb : base ≤ valN (byteAt s i).toNat) : numRes s base most = (0, 11, i) := by
  rw [numRes, if_neg (by omega), firstBad_some hi h hb]
theorem numRes_over {s : ByteArray} {base most : Nat} (h0 : 0 < s.size) (h : ∀ j, j < s.size → valN (byteAt s j).toNat < base) (ho : 18446744073709551616 ≤ numTo base s s.size ∨ most < numTo base s s.size) : numRes s base most = (0, 16, 0) := by
  rw [numRes, if_neg (by omega), firstBad_none h]; exact if_pos ho
theorem numRes_good {s : ByteArray} {base most : Nat} (h0 : 0 < s.size) (h : ∀ j, j < s.size → valN (byteAt s j).toNat < base) (ho : ¬ (18446744073709551616 ≤ numTo base s s.size ∨ most < numTo base s s.size)) : numRes s base most = (numTo base s s.size, 0, 0) := by
  rw [numRes, if_neg (by omega), firstBad_none h]; exact if_neg ho

def RefNum (s : ByteArray) (base most : Nat) (w : World) (e : Ending) (w' : World) : Prop :=
  e = .returned (.tuple #[.int .u64 ((numRes s base most).1 : Int), .int .i64 ((numRes s base most).2.1 : Int), .int .i64 ((numRes s base most).2.2 : Int)]) ∧ ∃ q, w.drewN q = w'
theorem RefNum.mk' {s : ByteArray} {base most n k i : Nat} {w w' : World} (h : numRes s base most = (n, k, i)) {a b c : Int} (ha : a = n) (hb : b = k) (hc : c = i) (hw : ∃ q, w.drewN q = w') :
    RefNum s base most w (.returned (.tuple #[.int .u64 a, .int .i64 b, .int .i64 c])) w' := by
  refine ⟨?_, hw⟩
  rw [h, ha, hb, hc]

/-- The state of the reference's loop. -/
def RefSt (base : Nat) (s : ByteArray) (k n : Nat) (o : Bool) : Prop := NumSt base s k n o ∧ (o = true → n = 0)
theorem RefSt.over {base : Nat} {s : ByteArray} {k n : Nat} {o : Bool} (hb : 1 ≤ base) (h : RefSt base s k n o) (hd : valN (byteAt s k).toNat < base) (ho : o = true ∨ 18446744073709551615 < n * base + valN (byteAt s k).toNat) :
    RefSt base s (k + 1) 0 true := by
  obtain ⟨⟨e1, e2, e3⟩, e4⟩ := h
  have hle : numTo base s k ≤ numTo base s (k + 1) := numTo_le base s hb (Nat.le_succ k)
  have hbig : 18446744073709551616 ≤ numTo base s (k + 1) := by
    rcases ho with ho | ho
    · rw [ho] at e1
      have : 18446744073709551616 ≤ numTo base s k := by simpa using e1.symm
      omega
    · by_cases hx : 18446744073709551616 ≤ numTo base s k
      · omega
      · have hn := e2 (by omega)
        rw [numTo, ← hn]
        omega
  refine ⟨⟨by rw [decide_eq_true hbig], fun h => by omega, fun j hj => ?_⟩, fun _ => rfl⟩
  by_cases hjk : j = k
  · subst hjk; exact hd
  · exact e3 j (by omega)
theorem RefSt.fits {base : Nat} {s : ByteArray} {k n : Nat} (h : RefSt base s k n false) (hd : valN (byteAt s k).toNat < base) (ho : n * base + valN (byteAt s k).toNat ≤ 18446744073709551615) :
    RefSt base s (k + 1) (n * base + valN (byteAt s k).toNat) false := by
  obtain ⟨⟨e1, e2, e3⟩, e4⟩ := h
  have hx : ¬ 18446744073709551616 ≤ numTo base s k := by simpa using e1.symm
  have hn := e2 (by omega)
  have he : numTo base s (k + 1) = n * base + valN (byteAt s k).toNat := by rw [numTo, hn]
  refine ⟨⟨?_, fun _ => he.symm, fun j hj => ?_⟩, fun h => by cases h⟩
  · rw [he, decide_eq_false (by omega)]
  · by_cases hjk : j = k
    · subst hjk; exact hd
    · exact e3 j (by omega)

theorem ref_over {m base d : Nat} (hb : 2 ≤ base) (h : 18446744073709551615 < m * base + d) : (18446744073709551615 - (d : Int)) / (base : Int) < (m : Int) := by
  refine Int.ediv_lt_of_lt_mul (by omega) ?_
  have : (18446744073709551615 : Int) < ((m * base + d : Nat) : Int) := by omega
  rw [Int.natCast_add, Int.natCast_mul] at this
  omega
theorem ref_fits2 {m base d : Nat} (h : m * base + d ≤ 18446744073709551615) : (m : Int) * (base : Int) + (d : Int) ≤ 18446744073709551615 := by
  have : ((m * base + d : Nat) : Int) ≤ 18446744073709551615 := by omega
  rw [Int.natCast_add, Int.natCast_mul] at this
  exact this
theorem ref_fits {m base d : Nat} (hb : 2 ≤ base) (h : m * base + d ≤ 18446744073709551615) : (m : Int) ≤ (18446744073709551615 - (d : Int)) / (base : Int) := by
  refine Int.le_ediv_of_mul_le (by omega) ?_
  have := ref_fits2 h
  omega

end Go.Proofs.YtakcfgmibijdnaaGreatDoor

/- Plain facts on a number's digits. -/
namespace Go.Proofs.YtakcfgmibijdnaaGreatDoor

/-- The figure of a digit. -/
def figN (d : Nat) : Nat := if d < 10 then 48 + d else 55 + d
/-- The k lowest digits of n, the highest first. -/
def digs (base : Nat) : Nat → Nat → List UInt8
  | 0, _ => []
  | k + 1, n => digs base k (n / base) ++ [UInt8.ofNat (figN (n % base))]
/-- How many digits n has; 0 has none. -/
def ndigs (base : Nat) : Nat → Nat → Nat
  | 0, _ => 0
  | f + 1, n => if n = 0 then 0 else ndigs base f (n / base) + 1

theorem digs_length (base k n : Nat) : (digs base k n).length = k := by
  induction k generalizing n with
  | zero => rfl
  | succ k ih => simp [digs, ih]

/-- One digit more, at the head. -/
theorem digs_head (base : Nat) (k n : Nat) : digs base (k + 1) n = UInt8.ofNat (figN (n / base ^ k % base)) :: digs base k n := by
  induction k generalizing n with
  | zero => simp [digs]
  | succ k ih =>
    rw [digs, ih (n / base), digs, Nat.div_div_eq_div_mul, ← Nat.pow_succ', List.cons_append]

theorem figN_lt (d : Nat) (h : d < 16) : figN d < 256 := by unfold figN; split <;> omega
theorem valN_figN (d : Nat) (h : d < 16) : valN (figN d) = d := by
  unfold figN valN
  by_cases h1 : d < 10
  · rw [if_pos h1, if_pos (by omega)]; omega
  · rw [if_neg h1, if_neg (by omega), if_neg (by omega), if_pos (by omega)]; omega
theorem valN_fig (d : Nat) (h : d < 16) : valN (UInt8.ofNat (figN d)).toNat = d := by
  rw [UInt8.toNat_ofNat_of_lt' (figN_lt d h), valN_figN d h]

/-- The number that a list of bytes gives. -/
def numL (base : Nat) (l : List UInt8) : Nat := l.foldl (fun n c => n * base + valN c.toNat) 0

theorem numTo_numL (base : Nat) (s : ByteArray) (k : Nat) (hk : k ≤ s.size) : numTo base s k = numL base (s.data.toList.take k) := by
  induction k with
  | zero => simp [numTo, numL]
  | succ k ih =>
    have hl : s.data.toList.length = s.size := rfl
    have ht : s.data.toList.take (k + 1) = s.data.toList.take k ++ [byteAt s k] := by
      rw [List.take_succ_eq_append_getElem (by omega)]
      simp [byteAt, List.getD, hl, show k < s.size from hk]
    rw [numTo, ih (by omega), ht]
    simp [numL, List.foldl_append]

theorem numL_digs (base : Nat) (hb : 2 ≤ base) (hb2 : base ≤ 16) (k n : Nat) (h : n < base ^ k) : numL base (digs base k n) = n := by
  induction k generalizing n with
  | zero => simp at h; subst h; rfl
  | succ k ih =>
    have hm : n % base < 16 := Nat.lt_of_lt_of_le (Nat.mod_lt _ (by omega)) hb2
    have hd : n / base < base ^ k := by
      rw [Nat.div_lt_iff_lt_mul (by omega), ← Nat.pow_succ]
      exact h
    rw [digs, numL, List.foldl_append]
    simp only [List.foldl_cons, List.foldl_nil]
    have := ih (n / base) hd
    rw [numL] at this
    rw [this, valN_fig _ hm]
    have := Nat.div_add_mod n base
    rw [Nat.mul_comm] at this
    exact this

theorem digs_small (base : Nat) (hb : 2 ≤ base) (hb2 : base ≤ 16) (k n : Nat) : ∀ c, c ∈ digs base k n → valN c.toNat < base := by
  induction k generalizing n with
  | zero => intro c hc; simp [digs] at hc
  | succ k ih =>
    intro c hc
    rw [digs, List.mem_append] at hc
    rcases hc with hc | hc
    · exact ih _ c hc
    · simp at hc
      subst hc
      rw [valN_fig _ (Nat.lt_of_lt_of_le (Nat.mod_lt _ (by omega)) hb2)]
      exact Nat.mod_lt _ (by omega)

theorem numRes_digs (base : Nat) (hb : 2 ≤ base) (hb2 : base ≤ 16) (k n : Nat) (hk : 0 < k) (h : n < base ^ k) (hn : n < 18446744073709551616) :
    numRes ⟨(digs base k n).toArray⟩ base 18446744073709551615 = (n, 0, 0) := by
  have hsz : (⟨(digs base k n).toArray⟩ : ByteArray).size = k := by
    show (digs base k n).toArray.size = k
    simp [digs_length]
  have hN : numTo base ⟨(digs base k n).toArray⟩ k = n := by
    rw [numTo_numL _ _ _ (by omega)]
    show numL base ((digs base k n).toArray.toList.take k) = n
    rw [List.toList_toArray, List.take_of_length_le (by simp [digs_length]), numL_digs base hb hb2 k n h]
  rw [numRes, if_neg (by omega), firstBad_none]
  · rw [hsz, hN]
    exact if_neg (by omega)
  · intro j hj
    rw [hsz] at hj
    refine digs_small base hb hb2 k n _ ?_
    have hl : j < (digs base k n).length := by rw [digs_length]; exact hj
    show (digs base k n).toArray.toList.getD j 0 ∈ digs base k n
    rw [List.toList_toArray, List.getD, List.getElem?_eq_getElem hl]
    exact List.getElem_mem hl

/-- When the digits are all told. -/
theorem ndigs_lt (base : Nat) (hb : 2 ≤ base) (f n : Nat) (h : n < base ^ f) : n < base ^ ndigs base f n := by
  induction f generalizing n with
  | zero => simpa [ndigs] using h
  | succ f ih =>
    rw [ndigs]
    by_cases h0 : n = 0
    · rw [if_pos h0, h0]; exact Nat.pow_pos (by omega)
    · rw [if_neg h0, Nat.pow_succ, ← Nat.div_lt_iff_lt_mul (by omega)]
      exact ih (n / base) (by rw [Nat.div_lt_iff_lt_mul (by omega), ← Nat.pow_succ]; exact h)
theorem ndigs_le (base f n : Nat) : ndigs base f n ≤ f := by
  induction f generalizing n with
  | zero => simp [ndigs]
  | succ f ih =>
    rw [ndigs]
    split
    · omega
    · have := ih (n / base); omega
/-- Below their number there is something left, from it on nothing. -/
theorem ndigs_pos (base : Nat) (hb : 2 ≤ base) (f n j : Nat) (h : n < base ^ f) : 0 < n / base ^ j ↔ j < ndigs base f n := by
  induction f generalizing n j with
  | zero => simp at h; subst h; simp [ndigs]
  | succ f ih =>
    rw [ndigs]
    by_cases h0 : n = 0
    · rw [if_pos h0, h0]; simp
    · rw [if_neg h0]
      cases j with
      | zero => simp; omega
      | succ j =>
        rw [Nat.pow_succ', ← Nat.div_div_eq_div_mul, ih (n / base) j (by rw [Nat.div_lt_iff_lt_mul (by omega), ← Nat.pow_succ]; exact h)]
        omega
/-- Noughts ahead. -/
theorem digs_pad (base : Nat) (k n : Nat) (h : n < base ^ k) : digs base (k + 1) n = 48 :: digs base k n := by
  rw [digs_head, Nat.div_eq_of_lt h]
  simp [figN]
end Go.Proofs.YtakcfgmibijdnaaGreatDoor

/- Of the reference of chapter 02: Has, Same. -/
namespace Go.Proofs.YtakcfgmibijdnaaGreatDoor
open Go.RowKit

/-- Strings stand in the cells of a block, from a place on. -/
def StrRow (w : World) (b off n : Nat) (l : List ByteArray) : Prop := l.length = n ∧ ∀ i, i < n → w.cell? ⟨b, off + i, none⟩ = some (.string (l.getD i ByteArray.empty))
theorem StrRow.below {w w' : World} {b off n B : Nat} {l : List ByteArray} (h : StrRow w b off n l) (hb : Below B w w') (hg : b < B) : StrRow w' b off n l :=
  ⟨h.1, fun i hi => (hb.cell (p := ⟨b, off + i, none⟩) hg).trans (h.2 i hi)⟩
theorem StrRow.drewN {w : World} {b off n : Nat} {l : List ByteArray} (h : StrRow w b off n l) (m : Nat) : StrRow (w.drewN m) b off n l := h
theorem StrRow.of_own {w : World} {base : Nat} {e : TypeId} {g n cap : Nat} {l : List ByteArray} (h : w.ownsRow base e 1 (.slice (some ⟨g, 0, none⟩) n cap) n (l.map strV)) : StrRow w g 0 n l := by
  have hl : l.length = n := by have := h.1; simpa using this
  refine ⟨hl, fun i hi => ?_⟩
  rw [Nat.zero_add, h.cellAt i (by omega)]
  simp [strV, hl, hi]

def hasB (s : ByteArray) (c : UInt8) : Bool := (List.range s.size).any fun i => byteAt s i == c
theorem hasB_yes {s : ByteArray} {c : UInt8} {k : Nat} (hk : k < s.size) (h : byteAt s k = c) : hasB s c = true := by
  unfold hasB; rw [List.any_eq_true]; exact ⟨k, by simpa using hk, by simpa using h⟩
theorem hasB_no {s : ByteArray} {c : UInt8} (h : ∀ j, j < s.size → byteAt s j ≠ c) : hasB s c = false := by
  unfold hasB; rw [List.any_eq_false]; intro j hj; simpa using h j (by simpa using hj)

theorem str_eqB (a b : ByteArray) : (a.toList == b.toList) = decide (a = b) := by
  rw [ByteArray.toList_eq, ByteArray.toList_eq, Bool.eq_iff_iff]
  simp only [beq_iff_eq, decide_eq_true_eq, Array.toList_inj]
  exact ⟨fun h => by cases a; cases b; simp_all, fun h => by rw [h]⟩


set_option maxHeartbeats 800000 in
theorem ref_Has (s : ByteArray) (c : UInt8) (w : World) (hs : s.size ≤ 140737488351232) :
    Calls Tryz.prog 114 #[.string s, .int .u8 (c.toNat : Int)] w fun e w' => e = .returned (.bool (hasB s c)) ∧ w = w' := by
  go_enter Tryz.func114, Tryz.ntmps114
  go_wp2_with fail
  go_loop [5] (fun i => ∃ k : Nat, k ≤ s.size ∧ i = .int .i64 k ∧ ∀ j, j < k → byteAt s j ≠ c) (fun i => s.size - (intOf i).toNat)
  case atStart => exact ⟨0, Nat.zero_le _, rfl, fun j hj => by omega⟩
  case round =>
    obtain ⟨k, hk, rfl, hall⟩ := hrel
    have HA := Lib.hid hall
    clear hall
    by_cases hlt : k < s.size
    · have hb : byteAt s k = s[k] := by simp [byteAt, List.getD, hlt]; rfl
      by_cases hc : byteAt s k = c
      · have e1 := u8_eq' (hb ▸ hc)
        go_wp2_with fail
        go_ret
        exact ⟨ret_bool (hasB_yes hlt hc).symm, rfl⟩
      · have e1 := u8_ne' (hb ▸ hc)
        go_wp2_with fail
        go_round
        case rel => exact ⟨k + 1, by omega, by go_num, fun j hj => by
          by_cases hjk : j = k
          · subst hjk; exact hc
          · exact HA.out j (by omega)⟩
        case measure => simp [intOf]; omega
    · obtain rfl : k = s.size := by omega
      go_wp2_with fail
      go_ret
      exact ⟨ret_bool (hasB_no HA.out).symm, rfl⟩

set_option maxHeartbeats 1600000 in
theorem ref_Same (b1 o1 n1 c1 b2 o2 n2 c2 : Nat) (l1 l2 : List ByteArray) (w : World) (h1 : StrRow w b1 o1 n1 l1) (h2 : StrRow w b2 o2 n2 l2) (hn1 : n1 ≤ 140737488351232) (hn2 : n2 ≤ 140737488351232) :
    Calls Tryz.prog 14 #[.slice (some ⟨b1, o1, none⟩) n1 c1, .slice (some ⟨b2, o2, none⟩) n2 c2] w fun e w' => e = .returned (.bool (decide (l1 = l2))) ∧ ∃ m, w.drewN m = w' := by
  by_cases hn : n1 = n2
  · subst hn
    go_enter Tryz.func14, Tryz.ntmps14
    go_wp2_with fail
    go_loopw [5] (fun i wr => ∃ k m : Nat, k ≤ n1 ∧ i = .int .i64 k ∧ w.drewN m = wr ∧ ∀ j, j < k → l1.getD j ByteArray.empty = l2.getD j ByteArray.empty) (fun i _ => n1 - (intOf i).toNat)
    case atStart => exact ⟨0, 0, Nat.zero_le _, rfl, rfl, fun j hj => by omega⟩
    case round =>
      obtain ⟨k, m, hk, rfl, rfl, hall⟩ := hrel
      have HA := Lib.hid hall
      clear hall
      by_cases hlt : k < n1
      · have e1 : w.cell? ⟨b1, o1 + k, none⟩ = some (.string (l1.getD k ByteArray.empty)) := h1.2 k hlt
        have e2 : w.cell? ⟨b2, o2 + k, none⟩ = some (.string (l2.getD k ByteArray.empty)) := h2.2 k hlt
        have i1 : (k : Int) < (n1 : Int) := by omega
        generalize hx1 : l1.getD k ByteArray.empty = x1 at e1
        generalize hx2 : l2.getD k ByteArray.empty = x2 at e2
        have HX1 := Lib.hid hx1
        have HX2 := Lib.hid hx2
        clear hx1 hx2
        by_cases hx : x1 = x2
        · have e3 : (x1.toList == x2.toList) = true := by rw [str_eqB]; simpa using hx
          have HX := Lib.hid hx
          clear hx
          go_wp2_with fail
          go_quiet (fail)
          go_wp2_with fail
          go_roundw
          case rel => exact ⟨k + 1, _, by omega, by go_num, rfl, fun j hj => by
            by_cases hjk : j = k
            · subst hjk; rw [HX1.out, HX2.out, HX.out]
            · exact HA.out j (by omega)⟩
          case measure => simp [intOf]; omega
        · have e3 : (x1.toList == x2.toList) = false := by rw [str_eqB]; simpa using hx
          have hne : l1 ≠ l2 := fun h => hx (by rw [← HX1.out, ← HX2.out, h])
          have HNE := Lib.hid hne
          clear hne hx
          go_wp2_with fail
          go_quiet (fail)
          go_wp2_with fail
          go_ret
          exact ⟨ret_bool (decide_eq_false HNE.out).symm, _, (World.drewN_drewN _ _ _).symm⟩
      · obtain rfl : k = n1 := by omega
        have heq : l1 = l2 := by
          refine List.ext_getElem (h1.1.trans h2.1.symm) (fun j h h' => ?_)
          have := HA.out j (by rw [← h1.1]; exact h)
          simpa [List.getD, h, h'] using this
        have HE := Lib.hid heq
        clear heq
        go_wp2_with fail
        go_ret
        exact ⟨ret_bool (decide_eq_true HE.out).symm, _, rfl⟩
  · have e1 : ((n1 : Int) != (n2 : Int)) = true := by simp; omega
    have hne : l1 ≠ l2 := fun h => hn (by rw [← h1.1, ← h2.1, h])
    have HNE := Lib.hid hne
    clear hne hn
    go_enter Tryz.func14, Tryz.ntmps14
    go_wp2_with fail
    go_ret
    exact ⟨ret_bool (decide_eq_false HNE.out).symm, 0, rfl⟩
end Go.Proofs.YtakcfgmibijdnaaGreatDoor

/- Plain: texts with escapes. -/
namespace Go.Proofs.YtakcfgmibijdnaaGreatDoor

theorem ext_size (p : ByteArray) (i j : Nat) (hij : i ≤ j) (hj : j ≤ p.size) : (p.extract i j).size = j - i := by
  rw [ByteArray.size_extract]; omega
theorem numRes_most (s : ByteArray) (base most : Nat) (h : (numRes s base most).2.1 = 0) : (numRes s base most).1 ≤ most := by
  unfold numRes at h ⊢
  by_cases h0 : s.size = 0
  · rw [if_pos h0] at h; simp at h
  · rw [if_neg h0] at h ⊢
    cases hx : firstBad base s with
    | some i => rw [hx] at h; simp at h
    | none =>
      rw [hx] at h
      simp only at h ⊢
      by_cases ho : 18446744073709551616 ≤ numTo base s s.size ∨ most < numTo base s s.size
      · rw [if_pos ho] at h; simp at h
      · rw [if_neg ho] at h ⊢
        show numTo base s s.size ≤ most
        omega
theorem numRes_zero (s : ByteArray) (base most : Nat) (h : (numRes s base most).2.1 ≠ 0) : (numRes s base most).1 = 0 := by
  unfold numRes at h ⊢
  by_cases h0 : s.size = 0
  · rw [if_pos h0]
  · rw [if_neg h0] at h ⊢
    cases hx : firstBad base s with
    | some i => simp only
    | none =>
      rw [hx] at h
      simp only at h ⊢
      by_cases ho : 18446744073709551616 ≤ numTo base s s.size ∨ most < numTo base s s.size
      · rw [if_pos ho]
      · rw [if_neg ho] at h
        exact absurd rfl h

/-- The byte of the escape at a place. -/
def escRes (s : ByteArray) (i : Nat) : Nat × Nat × Nat := numRes (s.extract (i + 1) (i + 3)) 16 255
def escOk (s : ByteArray) (i : Nat) : Bool := decide (i + 3 ≤ s.size) && decide ((escRes s i).2.1 = 0)
def escC (s : ByteArray) (i : Nat) : UInt8 := UInt8.ofNat (escRes s i).1
theorem escC_nat {s : ByteArray} {i : Nat} (h : escOk s i = true) : (escC s i).toNat = (escRes s i).1 := by
  unfold escOk at h
  rw [Bool.and_eq_true, decide_eq_true_iff, decide_eq_true_iff] at h
  have := numRes_most _ _ _ h.2
  unfold escC
  rw [UInt8.toNat_ofNat']
  exact Nat.mod_eq_of_lt (by unfold escRes at *; omega)

/-- What is told of a text from a place on: its bytes in order, and whether they are escapes; the place of the first escape that isn't right. -/
def toldFrom (s : ByteArray) : Nat → Nat → List (UInt8 × Bool) × Option Nat
  | 0, _ => ([], none)
  | f + 1, i => if i < s.size then (if (byteAt s i).toNat = 37 then (if escOk s i = true then ((escC s i, true) :: (toldFrom s f (i + 3)).1, (toldFrom s f (i + 3)).2) else ([], some i)) else ((byteAt s i, false) :: (toldFrom s f (i + 1)).1, (toldFrom s f (i + 1)).2)) else ([], none)
def told (s : ByteArray) : List (UInt8 × Bool) × Option Nat := toldFrom s s.size 0
/-- So much has been told, up to a place. -/
def Told (s : ByteArray) (l : List (UInt8 × Bool)) (i : Nat) : Prop := ∃ f, s.size - i ≤ f ∧ l.length ≤ i ∧ told s = (l ++ (toldFrom s f i).1, (toldFrom s f i).2)
theorem Told.zero (s : ByteArray) : Told s [] 0 := ⟨s.size, by omega, by simp, by simp [told]⟩
theorem Told.plain {s : ByteArray} {l : List (UInt8 × Bool)} {i : Nat} (h : Told s l i) (hi : i < s.size) (hc : (byteAt s i).toNat ≠ 37) : Told s (l ++ [(byteAt s i, false)]) (i + 1) := by
  obtain ⟨f, hf, hl, e⟩ := h
  cases f with
  | zero => omega
  | succ f =>
    rw [toldFrom, if_pos hi, if_neg hc] at e
    exact ⟨f, by omega, by simp; omega, by simpa using e⟩
theorem Told.esc {s : ByteArray} {l : List (UInt8 × Bool)} {i : Nat} (h : Told s l i) (hi : i < s.size) (hc : (byteAt s i).toNat = 37) (ho : escOk s i = true) : Told s (l ++ [(escC s i, true)]) (i + 3) := by
  obtain ⟨f, hf, hl, e⟩ := h
  cases f with
  | zero => omega
  | succ f =>
    rw [toldFrom, if_pos hi, if_pos hc, if_pos ho] at e
    exact ⟨f, by omega, by simp; omega, by simpa using e⟩
theorem Told.bad {s : ByteArray} {l : List (UInt8 × Bool)} {i : Nat} (h : Told s l i) (hi : i < s.size) (hc : (byteAt s i).toNat = 37) (ho : escOk s i = false) : told s = (l, some i) := by
  obtain ⟨f, hf, hl, e⟩ := h
  cases f with
  | zero => omega
  | succ f =>
    rw [toldFrom, if_pos hi, if_pos hc, if_neg (by simp [ho])] at e
    simpa using e
theorem Told.done {s : ByteArray} {l : List (UInt8 × Bool)} {i : Nat} (h : Told s l i) (hi : ¬ i < s.size) : told s = (l, none) := by
  obtain ⟨f, hf, hl, e⟩ := h
  cases f with
  | zero => rw [toldFrom] at e; simpa using e
  | succ f =>
    rw [toldFrom, if_neg hi] at e
    simpa using e
theorem escOk_le {s : ByteArray} {i : Nat} (h : escOk s i = true) : i + 3 ≤ s.size := by
  unfold escOk at h
  rw [Bool.and_eq_true, decide_eq_true_iff] at h
  exact h.1
theorem Told.len {s : ByteArray} {l : List (UInt8 × Bool)} {i : Nat} (h : Told s l i) : l.length ≤ i := by
  obtain ⟨_, _, h, _⟩ := h
  exact h

def unresN (n : Nat) : Bool := decide (97 ≤ n ∧ n ≤ 122) || (decide (65 ≤ n ∧ n ≤ 90) || (decide (48 ≤ n ∧ n ≤ 57) || decide (n = 45 ∨ n = 46 ∨ n = 95 ∨ n = 126)))
/-- Is a byte unreserved? -/
def unres (c : UInt8) : Bool := unresN c.toNat
/-- A byte as an escape. -/
def escW (c : UInt8) : List UInt8 := 37 :: digs 16 2 c.toNat
/-- A byte of a text in its normal form. -/
def normC (x : UInt8 × Bool) : List UInt8 := if x.2 = true ∧ unres x.1 = false then escW x.1 else [x.1]
def normL (l : List (UInt8 × Bool)) : List UInt8 := l.flatMap normC
def keepB (keep : ByteArray) (c : UInt8) : Bool := unres c || (decide (c.toNat ≠ 37) && hasB keep c)
def encC (keep : ByteArray) (c : UInt8) : List UInt8 := if keepB keep c = true then [c] else escW c
end Go.Proofs.YtakcfgmibijdnaaGreatDoor
