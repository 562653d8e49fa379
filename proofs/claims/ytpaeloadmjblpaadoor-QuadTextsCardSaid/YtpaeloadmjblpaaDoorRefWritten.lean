/- The reference's Written: a number's digits. -/
import Derived.Test.YtpaeloadmjblpaaDoorWritten
import Derived.Test.YtpaeloadmjblpaaDoorBa
namespace Go.Proofs.YtpaeloadmjblpaaDoor
open Go.RowKit

theorem str_size (l : List UInt8) : (⟨l.toArray⟩ : ByteArray).size = l.length := by
  show l.toArray.size = _
  simp

def strLen : Value → Nat
  | .string b => b.size
  | _ => 0
def figs : ByteArray := ⟨#[48, 49, 50, 51, 52, 53, 54, 55, 56, 57, 65, 66, 67, 68, 69, 70]⟩
theorem figs_cut (i : Nat) (h : i < 16) : figs.extract i (i + 1) = ⟨#[UInt8.ofNat (figN i)]⟩ := by
  have : ∀ i : Fin 16, figs.extract i.1 (i.1 + 1) = ⟨#[UInt8.ofNat (figN i.1)]⟩ := by decide +kernel
  exact this ⟨i, h⟩
theorem ba_cons (b : UInt8) (l : List UInt8) : (⟨#[b]⟩ : ByteArray) ++ ⟨l.toArray⟩ = ⟨(b :: l).toArray⟩ := by
  apply ba_ext
  rw [data_append]
  simp
theorem digs_nought (base : Nat) (hb : 2 ≤ base) (k n : Nat) (hn : n < base ^ 64) (hk : ndigs base 64 n ≤ k) : (⟨#[48]⟩ : ByteArray) ++ ⟨(digs base k n).toArray⟩ = ⟨(digs base (k + 1) n).toArray⟩ := by
  rw [ba_cons, digs_pad]
  exact Nat.lt_of_lt_of_le (ndigs_lt base hb 64 n hn) (Nat.pow_le_pow_right (by omega) hk)
theorem figs_step (base j n m : Nat) (hm : n / base ^ j = m) (hb : 0 < base) (hb2 : base ≤ 16) : figs.extract (m % base) (m % base + 1) ++ ⟨(digs base j n).toArray⟩ = ⟨(digs base (j + 1) n).toArray⟩ := by
  rw [figs_cut _ (Nat.lt_of_lt_of_le (Nat.mod_lt _ hb) hb2), ba_cons, digs_head, hm]

set_option maxHeartbeats 1600000 in
set_option maxRecDepth 100000 in
theorem ref_Written (n base : Nat) (width : Int) (w : World) (hn : n < 18446744073709551616) (hb : 2 ≤ base) (hb2 : base ≤ 16) (hw1 : width ≤ 9223372036854775807) (hw2 : -9223372036854775808 ≤ width) :
    Calls Tryd.prog 38 #[.int .u64 (n : Int), .int .u64 (base : Int), .int .i64 width] w fun e w' => e = .returned (.string ⟨(writ base n (min width 16).toNat).toArray⟩) ∧ ∃ q, w.drewN q = w' := by
  have hJ0 : ndigs base 64 n ≤ 64 := ndigs_le _ _ _
  have hJp := ndigs_pos base hb 64 n
  have h64 : n < base ^ 64 := Nat.lt_of_lt_of_le hn (Nat.le_trans (by decide) (Nat.pow_le_pow_left hb 64))
  go_enter Tryd.func38, Tryd.ntmps38
  go_wp2_with fail
  go_loopw [0, 8] (fun m s wr => ∃ j q : Nat, j ≤ 64 ∧ (j = 0 ∨ j < ndigs base 64 n) ∧ m = .int .u64 ((n / base ^ j : Nat) : Int) ∧ s = .string ⟨(digs base j n).toArray⟩ ∧ w.drewN q = wr)
    (fun m _ _ => (intOf m).toNat)
  case atStart => exact ⟨0, 0, by omega, .inl rfl, by simp, by simp [digs], rfl⟩
  case round =>
    obtain ⟨j, q, hj64, hj, rfl, rfl, rfl⟩ := hrel
    have hp := hJp j h64
    have hp1 := hJp (j + 1) h64
    generalize hm : n / base ^ j = m at *
    have HM := Lib.hid hm
    have hml : m < 18446744073709551616 := by rw [← hm]; exact Nat.lt_of_le_of_lt (Nat.div_le_self _ _) hn
    have hm2 : n / base ^ (j + 1) = m / base := by rw [Nat.pow_succ, ← Nat.div_div_eq_div_mul, hm]
    rw [hm2] at hp1
    have HM2 := Lib.hid hm2
    have hr0 : (0 : Int) ≤ (m : Int) % (base : Int) := Int.emod_nonneg _ (by omega)
    have hr1 : (m : Int) % (base : Int) < 16 := Int.lt_of_lt_of_le (Int.emod_lt_of_pos _ (by omega)) (by omega)
    have hq0 : (0 : Int) ≤ (m : Int) / (base : Int) := Int.ediv_nonneg (by omega) (by omega)
    have hq1 : (m : Int) / (base : Int) ≤ (m : Int) := Int.ediv_le_self _ (by omega)
    have h64' := Lib.hid h64
    clear hm hm2 hJp h64
    generalize hs : digs base j n = D at *
    have hdl : D.length = j := by rw [← hs]; exact digs_length _ _ _
    have HDL := Lib.hid hdl
    have hdl2 : D.length ≤ 64 := by omega
    have HS := Lib.hid hs
    clear hdl hs
    go_wp2_with fail
    go_quiet (fail)
    have hst := figs_step base j n m HM.out (by omega) hb2
    unfold figs at hst
    rw [HS.out] at hst
    rw [hst]
    clear hst
    by_cases h0 : m / base = 0
    · have h0' : (m : Int) / (base : Int) = 0 := by exact_mod_cast h0
      have hJ : j + 1 = max (ndigs base 64 n) 1 := by omega
      have HJ := Lib.hid hJ
      have H0 := Lib.hid h0
      clear hJ h0 hp1 hp hj
      go_wp2_with fail
      obtain ⟨wo, hwo⟩ : ∃ wo : World, wo = (w.drewN q).drewN nq := ⟨_, rfl⟩
      go_loopw [8] (fun s wr => ∃ k : Nat, j + 1 ≤ k ∧ k ≤ max (j + 1) (min width 16).toNat ∧ s = .string ⟨(digs base k n).toArray⟩ ∧ ∃ q, w.drewN q = wr)
        (fun s _ => 200 - strLen s)
      case atStart => exact ⟨j + 1, Nat.le_refl _, by omega, rfl, _, rfl⟩
      case round =>
        obtain ⟨k, hk1, hk2, rfl, q2, rfl⟩ := hrel
        have hp : (⟨#[48]⟩ : ByteArray) ++ ⟨(digs base k n).toArray⟩ = ⟨(digs base (k + 1) n).toArray⟩ := digs_nought base hb k n h64'.out (by have := HJ.out; omega)
        have hsz : (⟨(digs base k n).toArray⟩ : ByteArray).size = k := by rw [str_size, digs_length]
        have hsz1 : (⟨(digs base (k + 1) n).toArray⟩ : ByteArray).size = k + 1 := by rw [str_size, digs_length]
        generalize hS : (⟨(digs base k n).toArray⟩ : ByteArray) = s at *
        generalize hS1 : (⟨(digs base (k + 1) n).toArray⟩ : ByteArray) = s1 at *
        have HP := Lib.hid hp
        have hsz' : s.size ≤ k := by omega
        have hsz'' : k ≤ s.size := by omega
        have hsz1' : s1.size ≤ k + 1 := by omega
        have hsz1'' : k + 1 ≤ s1.size := by omega
        have HS0 := Lib.hid hS
        have HS1 := Lib.hid hS1
        clear hp hsz hsz1 hS hS1
        by_cases hc : (k : Int) < width ∧ k < 16
        · obtain ⟨hc1, hc2⟩ := hc
          have c1 : (s.size : Int) < width := by omega
          have c2 : s.size < 16 := by omega
          go_wp2_with fail
          go_roundw
          case rel => exact ⟨k + 1, by omega, by omega, by rw [HP.out, HS1.out], _, rfl⟩
          case measure => rw [HP.out]; simp only [strLen]; omega
        · by_cases hc1 : (s.size : Int) < width
          · have c2 : 16 ≤ s.size := by omega
            have hfin : k = max (ndigs base 64 n) (max (min width 16).toNat 1) := by have := HJ.out; omega
            have HF := Lib.hid hfin
            clear hfin hc
            go_wp2_with fail
            go_ret
            exact ⟨ret_str (by rw [← HS0.out, writ, ← HF.out]), _, rfl⟩
          · have c1 : width ≤ (s.size : Int) := by omega
            have hfin : k = max (ndigs base 64 n) (max (min width 16).toNat 1) := by have := HJ.out; omega
            have HF := Lib.hid hfin
            clear hfin hc
            go_wp2_with fail
            go_ret
            exact ⟨ret_str (by rw [← HS0.out, writ, ← HF.out]), _, rfl⟩
    · have e0 : ((m : Int) / (base : Int) == 0) = false := by
        rw [beq_eq_false_iff_ne]; exact_mod_cast h0
      have hlt : m / base < m := by
        have : 0 < m := Nat.pos_of_ne_zero (fun h => h0 (by rw [h]; exact Nat.zero_div _))
        exact Nat.div_lt_self this hb
      go_wp2_with fail
      go_roundw
      case rel => exact ⟨j + 1, _, by omega, by omega, by rw [HM2.out]; rfl, rfl, rfl⟩
      case measure => simp [intOf]; omega
end Go.Proofs.YtpaeloadmjblpaaDoor
