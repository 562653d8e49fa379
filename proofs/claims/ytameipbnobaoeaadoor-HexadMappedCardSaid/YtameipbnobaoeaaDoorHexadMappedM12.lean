/- hexad.longest, hexad.digits. -/
import Derived.Test.YtameipbnobaoeaaDoorHexadMappedM11
import Derived.Test.YtameipbnobaoeaaDoorHexadMappedM10
import Derived.Test.YtameipbnobaoeaaDoorHexadMappedM2
import Derived.Test.YtameipbnobaoeaaDoorHexadMappedM3
import Derived.Test.YtameipbnobaoeaaDoorHexadMappedM4

namespace Go.Proofs.YtameipbnobaoeaaDoor
open Go.RowKit

theorem index8 {g : List Nat} (hl : g.length = 8) {i : Nat} (hi : i < 8) (W : World) : (Instr.index 26 (.agg (g.map u16V).toArray) (.int .i64 (i : Int))).run Tryd.prog W = .ok (.int .u16 (g.getD i 0 : Nat)) W := by
  obtain ⟨x0, x1, x2, x3, x4, x5, x6, x7, rfl⟩ := eightM hl
  have ix0 : ∀ W, (Instr.index 26 (.agg #[.int .u16 (x0 : Int), .int .u16 (x1 : Int), .int .u16 (x2 : Int), .int .u16 (x3 : Int), .int .u16 (x4 : Int), .int .u16 (x5 : Int), .int .u16 (x6 : Int), .int .u16 (x7 : Int)]) (.int .i64 0)).run Tryd.prog W = .ok (.int .u16 (x0 : Int)) W := fun _ => by kernel_rfl
  have ix1 : ∀ W, (Instr.index 26 (.agg #[.int .u16 (x0 : Int), .int .u16 (x1 : Int), .int .u16 (x2 : Int), .int .u16 (x3 : Int), .int .u16 (x4 : Int), .int .u16 (x5 : Int), .int .u16 (x6 : Int), .int .u16 (x7 : Int)]) (.int .i64 1)).run Tryd.prog W = .ok (.int .u16 (x1 : Int)) W := fun _ => by kernel_rfl
  have ix2 : ∀ W, (Instr.index 26 (.agg #[.int .u16 (x0 : Int), .int .u16 (x1 : Int), .int .u16 (x2 : Int), .int .u16 (x3 : Int), .int .u16 (x4 : Int), .int .u16 (x5 : Int), .int .u16 (x6 : Int), .int .u16 (x7 : Int)]) (.int .i64 2)).run Tryd.prog W = .ok (.int .u16 (x2 : Int)) W := fun _ => by kernel_rfl
  have ix3 : ∀ W, (Instr.index 26 (.agg #[.int .u16 (x0 : Int), .int .u16 (x1 : Int), .int .u16 (x2 : Int), .int .u16 (x3 : Int), .int .u16 (x4 : Int), .int .u16 (x5 : Int), .int .u16 (x6 : Int), .int .u16 (x7 : Int)]) (.int .i64 3)).run Tryd.prog W = .ok (.int .u16 (x3 : Int)) W := fun _ => by kernel_rfl
  have ix4 : ∀ W, (Instr.index 26 (.agg #[.int .u16 (x0 : Int), .int .u16 (x1 : Int), .int .u16 (x2 : Int), .int .u16 (x3 : Int), .int .u16 (x4 : Int), .int .u16 (x5 : Int), .int .u16 (x6 : Int), .int .u16 (x7 : Int)]) (.int .i64 4)).run Tryd.prog W = .ok (.int .u16 (x4 : Int)) W := fun _ => by kernel_rfl
  have ix5 : ∀ W, (Instr.index 26 (.agg #[.int .u16 (x0 : Int), .int .u16 (x1 : Int), .int .u16 (x2 : Int), .int .u16 (x3 : Int), .int .u16 (x4 : Int), .int .u16 (x5 : Int), .int .u16 (x6 : Int), .int .u16 (x7 : Int)]) (.int .i64 5)).run Tryd.prog W = .ok (.int .u16 (x5 : Int)) W := fun _ => by kernel_rfl
  have ix6 : ∀ W, (Instr.index 26 (.agg #[.int .u16 (x0 : Int), .int .u16 (x1 : Int), .int .u16 (x2 : Int), .int .u16 (x3 : Int), .int .u16 (x4 : Int), .int .u16 (x5 : Int), .int .u16 (x6 : Int), .int .u16 (x7 : Int)]) (.int .i64 6)).run Tryd.prog W = .ok (.int .u16 (x6 : Int)) W := fun _ => by kernel_rfl
  have ix7 : ∀ W, (Instr.index 26 (.agg #[.int .u16 (x0 : Int), .int .u16 (x1 : Int), .int .u16 (x2 : Int), .int .u16 (x3 : Int), .int .u16 (x4 : Int), .int .u16 (x5 : Int), .int .u16 (x6 : Int), .int .u16 (x7 : Int)]) (.int .i64 7)).run Tryd.prog W = .ok (.int .u16 (x7 : Int)) W := fun _ => by kernel_rfl
  have hc : i = 0 ∨ i = 1 ∨ i = 2 ∨ i = 3 ∨ i = 4 ∨ i = 5 ∨ i = 6 ∨ i = 7 := by omega
  rcases hc with rfl | rfl | rfl | rfl | rfl | rfl | rfl | rfl
  · exact ix0 W
  · exact ix1 W
  · exact ix2 W
  · exact ix3 W
  · exact ix4 W
  · exact ix5 W
  · exact ix6 W
  · exact ix7 W
/-- One step on the way to the longest row. -/
def longS (st : Nat × Nat × Nat) (i : Nat) (b : Bool) : Nat × Nat × Nat := if st.2.1 < (if b = true then st.2.2 + 1 else 0) then (i + 1 - (if b = true then st.2.2 + 1 else 0), (if b = true then st.2.2 + 1 else 0), (if b = true then st.2.2 + 1 else 0)) else (st.1, st.2.1, (if b = true then st.2.2 + 1 else 0))
theorem longA_snoc : ∀ (l : List Bool) (b : Bool) (i : Nat) (st : Nat × Nat × Nat), longA (l ++ [b]) i st = longS (longA l i st) (i + l.length) b := by
  intro l
  induction l with
  | nil => intro b i st; obtain ⟨a, s, r⟩ := st; rfl
  | cons c l ih =>
    intro b i st
    obtain ⟨a, s, r⟩ := st
    rw [List.cons_append, longA, longA, ih, List.length_cons]
    congr 1
    omega
theorem longA_run : ∀ (l : List Bool) (i : Nat) (st : Nat × Nat × Nat), (longA l i st).2.2 ≤ st.2.2 + l.length := by
  intro l
  induction l with
  | nil => intro i st; obtain ⟨a, s, r⟩ := st; exact Nat.le_refl _
  | cons c l ih =>
    intro i st
    obtain ⟨a, s, r⟩ := st
    rw [longA]
    have key : ∀ k, k ≤ r + 1 → (if s < k then (i + 1 - k, k, k) else (a, s, k) : Nat × Nat × Nat).2.2 ≤ r + 1 := by
      intro k hk
      split <;> exact hk
    have h1 := key (if c = true then r + 1 else 0) (by split <;> omega)
    have h2 := ih (i + 1) (if s < (if c = true then r + 1 else 0) then (i + 1 - (if c = true then r + 1 else 0), (if c = true then r + 1 else 0), (if c = true then r + 1 else 0)) else (a, s, (if c = true then r + 1 else 0)))
    rw [List.length_cons]
    simp only at h1 h2 ⊢
    omega
set_option maxHeartbeats 3200000 in
set_option maxRecDepth 100000 in
theorem hexad_longest (g : List Nat) (w : World) (hl : g.length = 8) :
    Calls Tryd.prog 13 #[.agg (g.map u16V).toArray] w fun e w' => e = .returned (.tuple #[.int .i64 ((longH g).1 : Nat), .int .i64 ((longH g).2 : Nat)]) ∧ Below w.heap.size w w' := by
  have hix : ∀ i : Nat, i < 8 → ∀ W, (Instr.index 26 (.agg (g.map u16V).toArray) (.int .i64 (i : Int))).run Tryd.prog W = .ok (.int .u16 (g.getD i 0 : Nat)) W := fun i hi W => index8 hl hi W
  have hR : ArrAt (w.alloc (.cells (g.map u16V).toArray 26)) w.heap.size 26 (g.map u16V) := heap_alloc_new w _
  have hst : Below w.heap.size w (w.alloc (.cells (g.map u16V).toArray 26)) := (Below.refl _ _).alloc (Nat.le_refl _) _
  have hL := hR.load8 (by rw [List.length_map, hl])
  have hstep : ∀ i, i < 8 → longA ((zerosH g).take (i + 1)) 0 (0, 0, 0) = longS (longA ((zerosH g).take i) 0 (0, 0, 0)) i (decide (g.getD i 0 = 0)) := fun i hi => by
    have hzl : (zerosH g).length = 8 := by unfold zerosH; rw [List.length_map, hl]
    rw [List.take_succ_eq_append_getElem (by omega), longA_snoc, List.length_take]
    congr 1
    · omega
    · unfold zerosH
      simp [List.getD, List.getElem?_eq_getElem (show i < g.length by omega)]
  have hrun : ∀ i, i ≤ 8 → (longA ((zerosH g).take i) 0 (0, 0, 0)).2.2 ≤ i := fun i hi => by
    have := longA_run ((zerosH g).take i) 0 (0, 0, 0)
    rw [List.length_take] at this
    simp only at this
    omega
  have hend : longA ((zerosH g).take 8) 0 (0, 0, 0) = longA (zerosH g) 0 (0, 0, 0) := by
    rw [List.take_of_length_le (by unfold zerosH; rw [List.length_map, hl]; exact Nat.le_refl _)]
  have HIX := Lib.hid hix
  have HST := Lib.hid hstep
  have HRUN := Lib.hid hrun
  have HEND := Lib.hid hend
  have hd1 : (longH g).1 = (longA (zerosH g) 0 (0, 0, 0)).1 := rfl
  have hd2 : (longH g).2 = (longA (zerosH g) 0 (0, 0, 0)).2.1 := rfl
  have HD := Lib.hid (And.intro hd1 hd2)
  have hvl : (g.map u16V).length = 8 := by rw [List.length_map, hl]
  clear hix hstep hrun hend hd1 hd2
  obtain ⟨v0, v1, v2, v3, v4, v5, v6, v7, hv⟩ := eightM hvl
  have c0 := hR.cell (i := 0) (v := v0) (by rw [hv]; rfl)
  have c1 := hR.cell (i := 1) (v := v1) (by rw [hv]; rfl)
  have c2 := hR.cell (i := 2) (v := v2) (by rw [hv]; rfl)
  have c3 := hR.cell (i := 3) (v := v3) (by rw [hv]; rfl)
  have c4 := hR.cell (i := 4) (v := v4) (by rw [hv]; rfl)
  have c5 := hR.cell (i := 5) (v := v5) (by rw [hv]; rfl)
  have c6 := hR.cell (i := 6) (v := v6) (by rw [hv]; rfl)
  have c7 := hR.cell (i := 7) (v := v7) (by rw [hv]; rfl)
  rw [hv] at HIX hst
  rw [hv] at c0 c1 c2 c3 c4 c5 c6 c7 ⊢
  clear hv hvl hR hL
  go_enter Tryd.func13, Tryd.ntmps13
  go_wp2_with fail
  go_loopw [2, 3, 4, 8] (fun a s r x wr => ∃ i : Nat, i ≤ 8 ∧ x = .int .i64 i ∧ a = .int .i64 ((longA ((zerosH g).take i) 0 (0, 0, 0)).1 : Nat) ∧ s = .int .i64 ((longA ((zerosH g).take i) 0 (0, 0, 0)).2.1 : Nat) ∧ r = .int .i64 ((longA ((zerosH g).take i) 0 (0, 0, 0)).2.2 : Nat) ∧ w.alloc (.cells #[v0, v1, v2, v3, v4, v5, v6, v7] 26) = wr) (fun _ _ _ x _ => 8 - (intOf x).toNat)
  case atStart => exact ⟨0, Nat.zero_le _, rfl, rfl, rfl, rfl, by first | rfl | trivial⟩
  case round =>
    obtain ⟨i, hil, rfl, rfl, rfl, rfl, hw⟩ := hrel
    subst hw
    by_cases hlt : i < 8
    · have hiI : (i : Int) < 8 := by omega
      have hst1 := HST.out i hlt
      have hru := HRUN.out i (by omega)
      have ix := fun W => HIX.out i hlt W
      generalize longA ((zerosH g).take i) 0 (0, 0, 0) = st at *
      obtain ⟨a, s, r⟩ := st
      dsimp only at hru
      generalize g.getD i 0 = n at *
      by_cases hn : n = 0
      · have e1 : ((n : Int) != 0) = false := by rw [hn]; rfl
        rw [decide_eq_true hn] at hst1
        clear hn
        by_cases hs : s < r + 1
        · have hsI : ((r : Int) + 1) > (s : Int) := by omega
          have hst2 : longA ((zerosH g).take (i + 1)) 0 (0, 0, 0) = (i - r, r + 1, r + 1) := by rw [hst1]; unfold longS; simp only [if_true]; rw [if_pos hs]; congr 1; omega
          have HS := Lib.hid hst2
          clear hst1 hst2
          go_wp2_with fail
          go_roundw
          case rel => exact ⟨i + 1, by omega, by go_num, by rw [HS.out]; go_num, by rw [HS.out]; go_num, by rw [HS.out]; go_num, by first | rfl | trivial⟩
          case measure => simp [intOf]; omega
        · have hsI : ¬ ((r : Int) + 1) > (s : Int) := by omega
          have hst2 : longA ((zerosH g).take (i + 1)) 0 (0, 0, 0) = (a, s, r + 1) := by rw [hst1]; unfold longS; simp only [if_true]; rw [if_neg hs]
          have HS := Lib.hid hst2
          clear hst1 hst2
          go_wp2_with fail
          go_roundw
          case rel => exact ⟨i + 1, by omega, by go_num, by rw [HS.out], by rw [HS.out], by rw [HS.out]; go_num, by first | rfl | trivial⟩
          case measure => simp [intOf]; omega
      · have e1 : ((n : Int) != 0) = true := by simp; omega
        have hsI : ¬ (0 : Int) > (s : Int) := by omega
        have hst2 : longA ((zerosH g).take (i + 1)) 0 (0, 0, 0) = (a, s, 0) := by rw [hst1, decide_eq_false hn]; unfold longS; simp
        have HS := Lib.hid hst2
        clear hst1 hst2 hn
        go_wp2_with fail
        go_roundw
        case rel => exact ⟨i + 1, by omega, by go_num, by rw [HS.out], by rw [HS.out], by rw [HS.out]; rfl, by first | rfl | trivial⟩
        case measure => simp [intOf]; omega
    · obtain rfl : i = 8 := by omega
      obtain ⟨D1, D2⟩ := HD.out
      rw [HEND.out]
      rw [← D1, ← D2]
      clear D1 D2
      go_wp2_with fail
      go_ret2
      exact ⟨rfl, hst⟩
end Go.Proofs.YtameipbnobaoeaaDoor

/- The reference's Written: a number's digits. -/
namespace Go.Proofs.YtameipbnobaoeaaDoor
open Go.RowKit

theorem str_size (l : List UInt8) : (⟨l.toArray⟩ : ByteArray).size = l.length := by
  show l.toArray.size = _
  simp

def strLen : Value → Nat
  | .string b => b.size
  | _ => 0
def figs : ByteArray := ⟨#[48, 49, 50, 51, 52, 53, 54, 55, 56, 57, 65, 66, 67, 68, 69, 70]⟩
theorem figs_cut (i : Nat) (h : i < 16) : figs.extract i (i + 1) = ⟨#[UInt8.ofNat (figN i)]⟩ := by
  have : ∀ i : Fin 16, figs.extract i.1 (i.1 + 1) = ⟨#[UInt8.ofNat (figN i.1)]⟩ := by decide +kernel
  exact this ⟨i, h⟩
theorem ba_cons (b : UInt8) (l : List UInt8) : (⟨#[b]⟩ : ByteArray) ++ ⟨l.toArray⟩ = ⟨(b :: l).toArray⟩ := by
  apply ba_ext
  rw [data_append]
  simp
theorem digs_nought (base : Nat) (hb : 2 ≤ base) (k n : Nat) (hn : n < base ^ 64) (hk : ndigs base 64 n ≤ k) : (⟨#[48]⟩ : ByteArray) ++ ⟨(digs base k n).toArray⟩ = ⟨(digs base (k + 1) n).toArray⟩ := by
  rw [ba_cons, digs_pad]
  exact Nat.lt_of_lt_of_le (ndigs_lt base hb 64 n hn) (Nat.pow_le_pow_right (by omega) hk)
theorem figs_step (base j n m : Nat) (hm : n / base ^ j = m) (hb : 0 < base) (hb2 : base ≤ 16) : figs.extract (m % base) (m % base + 1) ++ ⟨(digs base j n).toArray⟩ = ⟨(digs base (j + 1) n).toArray⟩ := by
  rw [figs_cut _ (Nat.lt_of_lt_of_le (Nat.mod_lt _ hb) hb2), ba_cons, digs_head, hm]

set_option maxHeartbeats 1600000 in
set_option maxRecDepth 100000 in
theorem ref_Written (n base : Nat) (width : Int) (w : World) (hn : n < 18446744073709551616) (hb : 2 ≤ base) (hb2 : base ≤ 16) (hw1 : width ≤ 9223372036854775807) (hw2 : -9223372036854775808 ≤ width) :
    Calls Tryd.prog 19 #[.int .u64 (n : Int), .int .u64 (base : Int), .int .i64 width] w fun e w' => e = .returned (.string ⟨(writ base n (min width 16).toNat).toArray⟩) ∧ ∃ q, w.drewN q = w' := by
  have hJ0 : ndigs base 64 n ≤ 64 := ndigs_le _ _ _
  have hJp := ndigs_pos base hb 64 n
  have h64 : n < base ^ 64 := Nat.lt_of_lt_of_le hn (Nat.le_trans (by decide) (Nat.pow_le_pow_left hb 64))
  go_enter Tryd.func19, Tryd.ntmps19
  go_wp2_with fail
  go_loopw [0, 8] (fun m s wr => ∃ j q : Nat, j ≤ 64 ∧ (j = 0 ∨ j < ndigs base 64 n) ∧ m = .int .u64 ((n / base ^ j : Nat) : Int) ∧ s = .string ⟨(digs base j n).toArray⟩ ∧ w.drewN q = wr)
    (fun m _ _ => (intOf m).toNat)
  case atStart => exact ⟨0, 0, by omega, .inl rfl, by simp, by simp [digs], rfl⟩
  case round =>
    obtain ⟨j, q, hj64, hj, rfl, rfl, rfl⟩ := hrel
    have hp := hJp j h64
    have hp1 := hJp (j + 1) h64
    generalize hm : n / base ^ j = m at *
    have HM := Lib.hid hm
    have hml : m < 18446744073709551616 := by rw [← hm]; exact Nat.lt_of_le_of_lt (Nat.div_le_self _ _) hn
    have hm2 : n / base ^ (j + 1) = m / base := by rw [Nat.pow_succ, ← Nat.div_div_eq_div_mul, hm]
    rw [hm2] at hp1
    have HM2 := Lib.hid hm2
    have hr0 : (0 : Int) ≤ (m : Int) % (base : Int) := Int.emod_nonneg _ (by omega)
    have hr1 : (m : Int) % (base : Int) < 16 := Int.lt_of_lt_of_le (Int.emod_lt_of_pos _ (by omega)) (by omega)
    have hq0 : (0 : Int) ≤ (m : Int) / (base : Int) := Int.ediv_nonneg (by omega) (by omega)
    have hq1 : (m : Int) / (base : Int) ≤ (m : Int) := Int.ediv_le_self _ (by omega)
    have h64' := Lib.hid h64
    clear hm hm2 hJp h64
    generalize hs : digs base j n = D at *
    have hdl : D.length = j := by rw [← hs]; exact digs_length _ _ _
    have HDL := Lib.hid hdl
    have hdl2 : D.length ≤ 64 := by omega
    have HS := Lib.hid hs
    clear hdl hs
    go_wp2_with fail
    go_quiet (fail)
    have hst := figs_step base j n m HM.out (by omega) hb2
    unfold figs at hst
    rw [HS.out] at hst
    rw [hst]
    clear hst
    by_cases h0 : m / base = 0
    · have h0' : (m : Int) / (base : Int) = 0 := by exact_mod_cast h0
      have hJ : j + 1 = max (ndigs base 64 n) 1 := by omega
      have HJ := Lib.hid hJ
      have H0 := Lib.hid h0
      clear hJ h0 hp1 hp hj
      go_wp2_with fail
      obtain ⟨wo, hwo⟩ : ∃ wo : World, wo = (w.drewN q).drewN nq := ⟨_, rfl⟩
      go_loopw [8] (fun s wr => ∃ k : Nat, j + 1 ≤ k ∧ k ≤ max (j + 1) (min width 16).toNat ∧ s = .string ⟨(digs base k n).toArray⟩ ∧ ∃ q, w.drewN q = wr)
        (fun s _ => 200 - strLen s)
      case atStart => exact ⟨j + 1, Nat.le_refl _, by omega, rfl, _, rfl⟩
      case round =>
        obtain ⟨k, hk1, hk2, rfl, q2, rfl⟩ := hrel
        have hp : (⟨#[48]⟩ : ByteArray) ++ ⟨(digs base k n).toArray⟩ = ⟨(digs base (k + 1) n).toArray⟩ := digs_nought base hb k n h64'.out (by have := HJ.out; omega)
        have hsz : (⟨(digs base k n).toArray⟩ : ByteArray).size = k := by rw [str_size, digs_length]
        have hsz1 : (⟨(digs base (k + 1) n).toArray⟩ : ByteArray).size = k + 1 := by rw [str_size, digs_length]
        generalize hS : (⟨(digs base k n).toArray⟩ : ByteArray) = s at *
        generalize hS1 : (⟨(digs base (k + 1) n).toArray⟩ : ByteArray) = s1 at *
        have HP := Lib.hid hp
        have hsz' : s.size ≤ k := by omega
        have hsz'' : k ≤ s.size := by omega
        have hsz1' : s1.size ≤ k + 1 := by omega
        have hsz1'' : k + 1 ≤ s1.size := by omega
        have HS0 := Lib.hid hS
        have HS1 := Lib.hid hS1
        clear hp hsz hsz1 hS hS1
        by_cases hc : (k : Int) < width ∧ k < 16
        · obtain ⟨hc1, hc2⟩ := hc
          have c1 : (s.size : Int) < width := by omega
          have c2 : s.size < 16 := by omega
          go_wp2_with fail
          go_roundw
          case rel => exact ⟨k + 1, by omega, by omega, by rw [HP.out, HS1.out], _, rfl⟩
          case measure => rw [HP.out]; simp only [strLen]; omega
        · by_cases hc1 : (s.size : Int) < width
          · have c2 : 16 ≤ s.size := by omega
            have hfin : k = max (ndigs base 64 n) (max (min width 16).toNat 1) := by have := HJ.out; omega
            have HF := Lib.hid hfin
            clear hfin hc
            go_wp2_with fail
            go_ret
            exact ⟨ret_str (by rw [← HS0.out, writ, ← HF.out]), _, rfl⟩
          · have c1 : width ≤ (s.size : Int) := by omega
            have hfin : k = max (ndigs base 64 n) (max (min width 16).toNat 1) := by have := HJ.out; omega
            have HF := Lib.hid hfin
            clear hfin hc
            go_wp2_with fail
            go_ret
            exact ⟨ret_str (by rw [← HS0.out, writ, ← HF.out]), _, rfl⟩
    · have e0 : ((m : Int) / (base : Int) == 0) = false := by
        rw [beq_eq_false_iff_ne]; exact_mod_cast h0
      have hlt : m / base < m := by
        have : 0 < m := Nat.pos_of_ne_zero (fun h => h0 (by rw [h]; exact Nat.zero_div _))
        exact Nat.div_lt_self this hb
      go_wp2_with fail
      go_roundw
      case rel => exact ⟨j + 1, _, by omega, by omega, by rw [HM2.out]; rfl, rfl, rfl⟩
      case measure => simp [intOf]; omega
end Go.Proofs.YtameipbnobaoeaaDoor

/- hexad.digits. -/
namespace Go.Proofs.YtameipbnobaoeaaDoor
open Go.RowKit

/-- A slice of sixteen-bit numbers. -/
def USl (w : World) (a : Option Addr) (l : List Nat) : Prop := ∀ (j : Nat) (x : Nat), l[j]? = some x → ∃ b off, a = some ⟨b, off, none⟩ ∧ b < w.heap.size ∧ w.cell? ⟨b, off + j, none⟩ = some (.int .u16 (x : Int))
theorem USl.below {w w' : World} {a : Option Addr} {l : List Nat} (h : USl w a l) (hb : Below w.heap.size w w') : USl w' a l := by
  intro j x hx
  obtain ⟨b, off, e, hlt, hc⟩ := h j x hx
  exact ⟨b, off, e, Nat.lt_of_lt_of_le hlt hb.size, (hb.cell (p := ⟨b, off + j, none⟩) hlt).trans hc⟩
theorem ArrAt.usl {w : World} {g : Nat} {t : TypeId} {l : List Nat} (h : ArrAt w g t (l.map u16V)) (o : Nat) : USl w (some ⟨g, o, none⟩) (l.drop o) := by
  intro j x hx
  rw [List.getElem?_drop] at hx
  exact ⟨g, o, rfl, h.lt, h.cell (by rw [List.getElem?_map, hx]; rfl)⟩
theorem USl.take {w : World} {a : Option Addr} {l : List Nat} (h : USl w a l) (n : Nat) : USl w a (l.take n) := by
  intro j x hx
  refine h j x ?_
  rw [List.getElem?_take] at hx
  split at hx
  · exact hx
  · cases hx
theorem group_text {x : Nat} (hx : x < 65536) : ∃ R0 : ByteArray, (∀ W, Calls Tryd.prog 21 #[.int .u64 (x : Int), .int .i64 1] W fun e w' => e = .returned (.string R0) ∧ Below W.heap.size W w') ∧ ∀ W, Calls Tryd.prog 20 #[.string R0] W fun e w' => e = .returned (.string (ofL (hexG x))) ∧ Below W.heap.size W w' := by
  have hm1 : (min (1 : Int) 16).toNat = 1 := by decide
  have hz0 : (⟨(writ 16 x 1).toArray⟩ : ByteArray).size ≤ 140737488351232 := by
    have h4 := hexG_len hx
    unfold hexG lowerL at h4
    rw [List.length_map] at h4
    show ((writ 16 x 1).toArray).size ≤ _
    rw [List.size_toArray]; omega
  refine ⟨⟨(writ 16 x 1).toArray⟩, fun W => ?_, fun W => ?_⟩
  · have := fold_HexDigits x 1 W (by omega) (by omega)
    rw [hm1] at this
    exact this
  · have := fold_Lower ⟨(writ 16 x 1).toArray⟩ W hz0
    rw [hexG_is] at this
    exact this
theorem joins_len {l : List Nat} (hx : ∀ x ∈ l, x < 65536) : (joinA 58 (l.map hexG)).length ≤ 5 * l.length := by
  have := joinA_len 58 4 (l.map hexG) (fun p hp => by obtain ⟨n, hn, rfl⟩ := List.mem_map.1 hp; exact (hexG_len (hx n hn)).2)
  rw [List.length_map] at this
  exact this
set_option maxHeartbeats 400000 in
set_option maxRecDepth 100000 in
theorem hexad_digits (a : Option Addr) (c : Nat) (l : List Nat) (w : World) (h : USl w a l) (hl : l.length ≤ 8) (hx : ∀ x ∈ l, x < 65536) :
    Calls Tryd.prog 14 #[.slice a l.length c] w fun e w' => e = .returned (.string (ofL (joinA 58 (l.map hexG)))) ∧ Below w.heap.size w w' := by
  have HSL := Lib.hid h
  have HX := Lib.hid hx
  have hjl : (joinA 58 (l.map hexG)).length ≤ 140737488355328 := by
    have := joins_len hx
    omega
  clear h hx
  go_enter Tryd.func14, Tryd.ntmps14
  go_wp2_with fail
  go_loopw [3, 8] (fun v x wr => ∃ i : Nat, i ≤ l.length ∧ x = .int .i64 i ∧ OwnS wr w.heap.size v (((l.take i).map hexG).map ofL) ∧ Below w.heap.size w wr) (fun _ x _ => l.length - (intOf x).toNat)
  case atStart => exact ⟨0, Nat.zero_le _, rfl, OwnS.nil _ _, Below.refl _ _⟩
  case round =>
    obtain ⟨i, hil, rfl, hown, hbr⟩ := hrel
    by_cases hlt : i < l.length
    · obtain ⟨x, hx⟩ : ∃ x, l[i]? = some x := ⟨_, List.getElem?_eq_getElem hlt⟩
      obtain ⟨b, off, rfl, hb, d0⟩ := (HSL.out.below hbr) i x hx
      have hx6 := HX.out x (List.mem_of_getElem? hx)
      have hiI : (i : Int) < (l.length : Int) := by omega
      obtain ⟨R0, cH', cL'⟩ := group_text hx6
      have cH := Lib.hid cH'
      have cL := Lib.hid cL'
      clear cH' cL'
      have hstep : ((l.take (i + 1)).map hexG).map ofL = ((l.take i).map hexG).map ofL ++ [ofL (hexG x)] := by
        rw [List.take_add_one, hx]
        simp
      have hal : (((l.take i).map hexG).map ofL).length ≤ 8 := by rw [List.length_map, List.length_map, List.length_take]; omega
      have HST := Lib.hid hstep
      generalize ((l.take i).map hexG).map ofL = acc at *
      generalize ofL (hexG x) = R at *
      clear hx hstep
      go_wp2_with fail
      refine (cH.out _).mono ?_
      rintro e w2 ⟨rfl, hb2⟩
      have hbr2 := Bt hbr hb2
      have hown2 := hown.below hb2
      clear hbr hb2 hown d0 cH
      go_wp2_with fail
      refine (cL.out _).mono ?_
      rintro e w3 ⟨rfl, hb3⟩
      have hbr3 := Bt hbr2 hb3
      have hown3 := hown2.below hb3
      have hbC : Below w3.heap.size w3 (w3.alloc (.cells #[.string R] 9)) := (Below.refl _ _).alloc (Nat.le_refl _) _
      have hownC := hown3.below hbC
      have hblk := heap_alloc_new w3 (.cells #[.string R] 9)
      have hszC : w.heap.size ≤ (w3.alloc (.cells #[.string R] 9)).heap.size := by have := hbr3.size; simp; omega
      have hbr4 := Bt hbr3 hbC
      clear hbr2 hb3 hown2 hown3 cL hbC hbr3
      go_wp2_with (at_builtin; go_loud (refine wpList_app_str rfl _ _ rfl w.heap.size _ _ rfl hownC w3.heap.size 1 R rfl hblk (by omega) hszC ?_))
      intro v' w' hown' hg'
      have hb' := hownC.under hbr4 (Nat.le_refl _) hg'
      rw [← HST.out] at hown'
      clear hg' hownC hblk hbr4
      go_wp2_with fail
      go_roundw
      case rel => exact ⟨i + 1, by omega, by go_num, hown', hb'⟩
      case measure => simp [intOf]; omega
    · obtain rfl : i = l.length := by omega
      rw [List.take_length] at hown
      obtain ⟨av, cv, rfl, h1, h2, hrow⟩ := hown.sl
      rw [List.length_map, List.length_map] at h1
      have cJ := Lib.hid (str_Join (l.map hexG) 58 av l.length cv wr (by rw [List.length_map, List.length_map]) hrow h1 hjl (by rw [List.length_map]; omega))
      clear hown hrow
      go_wp2_with fail
      refine cJ.out.mono ?_
      rintro e w2 ⟨rfl, hb2⟩
      have hbr2 := Bt hbr hb2
      go_wp2_with fail
      go_ret
      exact ⟨rfl, hbr2⟩
end Go.Proofs.YtameipbnobaoeaaDoor

/- A list cut at a mark once: plain facts. -/
namespace Go.Proofs.YtameipbnobaoeaaDoor

/-- A list's part ahead of a mark, the part behind it, and whether it stands there. -/
def cutL (c : UInt8) : List UInt8 → List UInt8 × List UInt8 × Bool
  | [] => ([], [], false)
  | x :: l => if x = c then ([], l, true) else (x :: (cutL c l).1, (cutL c l).2.1, (cutL c l).2.2)
def cutN (c : UInt8) (s : ByteArray) : ByteArray := ofL (cutL c s.data.toList).1
def cutV (c : UInt8) (s : ByteArray) : ByteArray := ofL (cutL c s.data.toList).2.1
def cutH (c : UInt8) (s : ByteArray) : Bool := (cutL c s.data.toList).2.2
theorem cutL_none (c : UInt8) : ∀ (a : List UInt8), (∀ x ∈ a, x ≠ c) → cutL c a = (a, [], false)
  | [], _ => rfl
  | x :: a, h => by rw [cutL, if_neg (h x (by simp)), cutL_none c a (fun y hy => h y (by simp [hy]))]
theorem cutL_cut (c : UInt8) (b : List UInt8) : ∀ (a : List UInt8), (∀ x ∈ a, x ≠ c) → cutL c (a ++ c :: b) = (a, b, true)
  | [], _ => by simp [cutL]
  | x :: a, h => by rw [List.cons_append, cutL, if_neg (h x (by simp)), cutL_cut c b a (fun y hy => h y (by simp [hy]))]
theorem cutL_len (c : UInt8) (l : List UInt8) : (cutL c l).1.length + (cutL c l).2.1.length + (if (cutL c l).2.2 = true then 1 else 0) = l.length := by
  rcases first_cut c l with h | ⟨a, b, e, h⟩
  · rw [cutL_none c l h]; simp
  · subst e; rw [cutL_cut c b a h]; simp; omega
theorem cutN_size (c : UInt8) (s : ByteArray) : (cutN c s).size ≤ s.size := by
  have := cutL_len c s.data.toList
  have hl : s.data.toList.length = s.size := rfl
  unfold cutN; rw [ofL_size]; omega
theorem cutV_size (c : UInt8) (s : ByteArray) : (cutV c s).size ≤ s.size := by
  have := cutL_len c s.data.toList
  have hl : s.data.toList.length = s.size := rfl
  unfold cutV; rw [ofL_size]; omega
theorem ofL_data (l : List UInt8) : (ofL l).data.toList = l := by simp [ofL]
/-- The index of a mark tells where a text is cut. -/
theorem cut_ways (c : UInt8) (s : ByteArray) : (Lib.indexByte s.data.toList c = -1 ∧ cutN c s = s ∧ cutV c s = ⟨#[]⟩ ∧ cutH c s = false ∧ ∀ j, j < s.size → byteAt s j ≠ c) ∨
    ∃ i : Nat, Lib.indexByte s.data.toList c = i ∧ i < s.size ∧ cutN c s = s.extract 0 i ∧ cutV c s = s.extract (i + 1) s.size ∧ cutH c s = true ∧ byteAt s i = c ∧ ∀ j, j < i → byteAt s j ≠ c := by
  have hl : s.data.toList.length = s.size := rfl
  have hget : ∀ j, (h : j < s.size) → byteAt s j = s.data.toList[j] := fun j h => by unfold byteAt; rw [List.getD, List.getElem?_eq_getElem (by omega)]; rfl
  unfold cutN cutV cutH
  rcases first_cut c s.data.toList with h | ⟨a, b, e, h⟩
  · refine .inl ⟨by rw [← Lib.index_one]; exact split_index_none h, ?_, ?_, ?_, fun j hj => ?_⟩
    · rw [cutL_none c _ h]; exact ofL_list s
    · rw [cutL_none c _ h]; rfl
    · rw [cutL_none c _ h]
    · rw [hget j hj]; exact h _ (List.getElem_mem _)
  · have hs : s.size = a.length + 1 + b.length := by rw [← hl, e]; simp; omega
    refine .inr ⟨a.length, by rw [← Lib.index_one, e]; exact split_index h, by omega, ?_, ?_, ?_, ?_, fun j hj => ?_⟩
    · rw [e, cutL_cut c b a h]
      apply ByteArray.ext
      apply Array.ext'
      rw [Lib.extract_data, e]
      simp [ofL]
    · rw [e, cutL_cut c b a h]
      apply ByteArray.ext
      apply Array.ext'
      rw [Lib.extract_data, e, hs]
      simp [ofL]
    · rw [e, cutL_cut c b a h]
    · rw [hget _ (by omega)]; simp [e]
    · rw [hget _ (by omega)]
      have : s.data.toList[j]'(by omega) = a[j] := by simp [e, List.getElem_append_left, hj]
      rw [this]
      exact h _ (List.getElem_mem _)
/-- Where a text is cut, as one who goes from byte to byte finds it. -/
theorem cut_lim (c : UInt8) (s : ByteArray) : ∃ i, i ≤ s.size ∧ (∀ j, j < i → byteAt s j ≠ c) ∧ cutN c s = s.extract 0 i ∧ (cutN c s).size = i ∧ ((i = s.size ∧ cutV c s = ⟨#[]⟩ ∧ cutH c s = false) ∨ (i < s.size ∧ byteAt s i = c ∧ cutV c s = s.extract (i + 1) s.size ∧ cutH c s = true)) := by
  rcases cut_ways c s with ⟨_, e1, e2, e3, h⟩ | ⟨i, _, hi, e1, e2, e3, h0, h⟩
  · refine ⟨s.size, Nat.le_refl _, h, ?_, by rw [e1], .inl ⟨rfl, e2, e3⟩⟩
    rw [e1]
    apply ByteArray.ext
    apply Array.ext'
    rw [Lib.extract_data]
    have hl : s.data.toList.length = s.size := rfl
    rw [List.drop_zero, Nat.sub_zero, ← hl, List.take_length]
  · exact ⟨i, by omega, h, e1, by rw [e1, ByteArray.size_extract]; omega, .inr ⟨hi, h0, e2, e3⟩⟩
theorem u8_neN {b : UInt8} {n : Nat} (hn : n < 256) (h : b ≠ UInt8.ofNat n) : ((b.toNat : Int) != (n : Int)) = true := by
  simp only [bne_iff_ne, ne_eq, Int.ofNat_inj]
  intro e
  apply h
  apply UInt8.toNat_inj.1
  rw [e, UInt8.toNat_ofNat_of_lt' hn]
theorem u8_eqN {b : UInt8} {n : Nat} (hn : n < 256) (h : b = UInt8.ofNat n) : ((b.toNat : Int) != (n : Int)) = false := by
  subst h
  rw [UInt8.toNat_ofNat_of_lt' hn]
  simp
theorem byteAt_ix {s : ByteArray} {i : Nat} (h : i < s.size) : byteAt s i = s[i] := by simp [byteAt, List.getD, h]; rfl
end Go.Proofs.YtameipbnobaoeaaDoor
