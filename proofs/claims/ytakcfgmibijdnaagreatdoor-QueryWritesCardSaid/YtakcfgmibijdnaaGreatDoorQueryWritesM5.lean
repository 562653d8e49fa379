/- Plain: what is told of texts that are put together of bytes and escapes. -/
import Derived.Test.YtakcfgmibijdnaaGreatDoorQueryWritesM4
import Derived.Test.YtakcfgmibijdnaaGreatDoorQueryWritesM1
import Derived.Laws.BitsLemmas
import Derived.Test.YtakcfgmibijdnaaGreatDoorQueryWritesM3
import Derived.Laws.BytesArg

namespace Go.Proofs.YtakcfgmibijdnaaGreatDoor

theorem numRes_two (h l : UInt8) (c : Nat) (hc : c < 256) (h1 : valN h.toNat = c / 16) (h2 : valN l.toNat = c % 16) : numRes ⟨#[h, l]⟩ 16 255 = (c, 0, 0) := by
  have b0 : byteAt (⟨#[h, l]⟩ : ByteArray) 0 = h := rfl
  have b1 : byteAt (⟨#[h, l]⟩ : ByteArray) 1 = l := rfl
  have hs : (⟨#[h, l]⟩ : ByteArray).size = 2 := rfl
  have hn : numTo 16 ⟨#[h, l]⟩ 2 = c := by
    show ((0 * 16 + valN (byteAt (⟨#[h, l]⟩ : ByteArray) 0).toNat) * 16 + valN (byteAt (⟨#[h, l]⟩ : ByteArray) 1).toNat) = c
    rw [b0, b1, h1, h2]; omega
  have := numRes_good (s := ⟨#[h, l]⟩) (base := 16) (most := 255) (by rw [hs]; omega) (fun j hj => by
    rw [hs] at hj
    have : j = 0 ∨ j = 1 := by omega
    rcases this with rfl | rfl
    · rw [b0, h1]; omega
    · rw [b1, h2]; omega) (by rw [hs, hn]; omega)
  rw [this, hs, hn]

/-- A byte that stays, or an escape; what is told of it. -/
def Piece (x : List UInt8) (y : UInt8 × Bool) : Prop := (∃ c : UInt8, x = [c] ∧ c.toNat ≠ 37 ∧ y = (c, false)) ∨ (∃ h l c : UInt8, x = [37, h, l] ∧ numRes ⟨#[h, l]⟩ 16 255 = (c.toNat, 0, 0) ∧ y = (c, true))

theorem byteAt_list (l : List UInt8) (i : Nat) : byteAt (ofL l) i = l.getD i 0 := rfl
theorem told_at : ∀ (post pre : List (List UInt8 × (UInt8 × Bool))), (∀ p ∈ post, Piece p.1 p.2) → Told (ofL ((pre ++ post).flatMap (·.1))) (pre.map (·.2)) (pre.flatMap (·.1)).length → told (ofL ((pre ++ post).flatMap (·.1))) = ((pre ++ post).map (·.2), none) := by
  intro post
  induction post with
  | nil =>
    intro pre _ h
    rw [List.append_nil] at h ⊢
    exact h.done (by rw [ofL_size]; omega)
  | cons p post ih =>
    intro pre hp h
    have hl : (pre ++ p :: post).flatMap (·.1) = pre.flatMap (·.1) ++ (p.1 ++ post.flatMap (·.1)) := by simp
    have hnext : Told (ofL ((pre ++ p :: post).flatMap (·.1))) ((pre ++ [p]).map (·.2)) ((pre ++ [p]).flatMap (·.1)).length := by
      rcases hp p (by simp) with ⟨c, hx, hc, hy⟩ | ⟨a, b, c, hx, hn, hy⟩
      · have hb : byteAt (ofL ((pre ++ p :: post).flatMap (·.1))) (pre.flatMap (·.1)).length = c := by
          rw [byteAt_list, hl, hx]
          simp [List.getD]
        have := h.plain (by rw [ofL_size, hl, hx]; simp) (by rw [hb]; exact hc)
        rw [hb] at this
        simpa [hx, hy] using this
      · have hb : byteAt (ofL ((pre ++ p :: post).flatMap (·.1))) (pre.flatMap (·.1)).length = 37 := by
          rw [byteAt_list, hl, hx]
          simp [List.getD]
        have he : (ofL ((pre ++ p :: post).flatMap (·.1))).extract ((pre.flatMap (·.1)).length + 1) ((pre.flatMap (·.1)).length + 3) = ⟨#[a, b]⟩ := by
          apply ba_ext
          rw [Lib.extract_data]
          show ((((pre ++ p :: post).flatMap (·.1)).drop _).take _) = [a, b]
          rw [hl, hx, List.drop_append, List.drop_of_length_le (by omega), List.nil_append]
          rw [show (pre.flatMap (·.1)).length + 1 - (pre.flatMap (·.1)).length = 1 by omega, show (pre.flatMap (·.1)).length + 3 - ((pre.flatMap (·.1)).length + 1) = 2 by omega]
          rfl
        have hsz : (pre.flatMap (·.1)).length + 3 ≤ (ofL ((pre ++ p :: post).flatMap (·.1))).size := by rw [ofL_size, hl, hx]; simp
        have hr : escRes (ofL ((pre ++ p :: post).flatMap (·.1))) (pre.flatMap (·.1)).length = (c.toNat, 0, 0) := by unfold escRes; rw [he, hn]
        have ho : escOk (ofL ((pre ++ p :: post).flatMap (·.1))) (pre.flatMap (·.1)).length = true := by
          unfold escOk
          rw [hr, decide_eq_true hsz]; rfl
        have hc : escC (ofL ((pre ++ p :: post).flatMap (·.1))) (pre.flatMap (·.1)).length = c := by
          apply UInt8.toNat_inj.1
          rw [escC_nat ho, hr]
        have := h.esc (by omega) (by rw [hb]; rfl) ho
        rw [hc] at this
        simpa [hx, hy] using this
    have e : pre ++ p :: post = (pre ++ [p]) ++ post := by simp
    rw [e] at hnext ⊢
    exact ih (pre ++ [p]) (fun q hq => hp q (by simp [hq])) hnext
theorem told_pieces (l : List (List UInt8 × (UInt8 × Bool))) (h : ∀ p ∈ l, Piece p.1 p.2) : told (ofL (l.flatMap (·.1))) = (l.map (·.2), none) := by
  have := told_at l [] h (by simpa using Told.zero _)
  simpa using this

theorem escW_is (c : UInt8) : escW c = [37, UInt8.ofNat (figN (c.toNat / 16)), UInt8.ofNat (figN (c.toNat % 16))] := by
  have hb := c.toNat_lt
  have e : c.toNat / 16 % 16 = c.toNat / 16 := Nat.mod_eq_of_lt (by omega)
  unfold escW
  rw [digs, digs, digs, e]
  rfl
theorem piece_esc (c : UInt8) : Piece (escW c) (c, true) := by
  have hb := c.toNat_lt
  refine .inr ⟨_, _, c, escW_is c, numRes_two _ _ c.toNat hb ?_ ?_, rfl⟩
  · exact valN_fig _ (by omega)
  · exact valN_fig _ (by omega)
theorem keepB_ne {keep : ByteArray} {c : UInt8} (h : keepB keep c = true) : c.toNat ≠ 37 := by
  intro e
  unfold keepB unres at h
  rw [e] at h
  simp [unresN] at h
def encL (keep : ByteArray) (l : List UInt8) : List UInt8 := l.flatMap (encC keep)
theorem told_enc (keep : ByteArray) (l : List UInt8) : (told (ofL (encL keep l))).2 = none ∧ bytesT (ofL (encL keep l)) = l := by
  have h := told_pieces (l.map fun c => (encC keep c, (c, !keepB keep c))) (fun p hp => by
    obtain ⟨c, _, rfl⟩ := List.mem_map.1 hp
    show Piece (encC keep c) (c, !keepB keep c)
    unfold encC
    cases hk : keepB keep c with
    | true => rw [if_pos rfl]; exact .inl ⟨c, rfl, keepB_ne hk, rfl⟩
    | false => rw [if_neg (by simp)]; exact piece_esc c)
  have e : (l.map fun c => (encC keep c, (c, !keepB keep c))).flatMap (·.1) = encL keep l := by
    unfold encL; rw [List.flatMap_map]
  rw [e] at h
  unfold bytesT
  rw [h]
  refine ⟨rfl, ?_⟩
  simp [List.map_map, Function.comp_def]

/-- Bytes that aren't escaped are no %. -/
theorem told_plain (s : ByteArray) : ∀ f i, ∀ x ∈ (toldFrom s f i).1, x.2 = false → x.1.toNat ≠ 37 := by
  intro f
  induction f with
  | zero => intro i x h; simp [toldFrom] at h
  | succ f ih =>
    intro i x h hx
    unfold toldFrom at h
    split at h
    · split at h
      · split at h
        · rcases List.mem_cons.1 h with rfl | h
          · cases hx
          · exact ih _ x h hx
        · cases h
      · rename_i hc
        rcases List.mem_cons.1 h with rfl | h
        · exact hc
        · exact ih _ x h hx
    · cases h
def normX (x : UInt8 × Bool) : UInt8 × Bool := (x.1, x.2 && !unres x.1)
theorem normC_X (x : UInt8 × Bool) : normC (normX x) = normC x := by
  obtain ⟨c, b⟩ := x
  unfold normC normX
  cases b <;> cases h : unres c <;> simp [h]
theorem piece_norm (x : UInt8 × Bool) (h : x.2 = false → x.1.toNat ≠ 37) : Piece (normC x) (normX x) := by
  obtain ⟨c, b⟩ := x
  unfold normC normX
  cases b with
  | false => simp only [Bool.false_and]; rw [if_neg (by simp)]; exact .inl ⟨c, rfl, h rfl, rfl⟩
  | true =>
    cases hu : unres c with
    | true =>
      rw [if_neg (by simp [hu])]
      refine .inl ⟨c, rfl, fun e => ?_, by simp [hu]⟩
      unfold unres at hu
      rw [e] at hu
      simp [unresN] at hu
    | false => rw [if_pos (by simp [hu])]; simpa [hu] using piece_esc c
theorem told_norm (s : ByteArray) : told (normS s) = ((told s).1.map normX, none) := by
  have h := told_pieces ((told s).1.map fun x => (normC x, normX x)) (fun p hp => by
    obtain ⟨x, hx, rfl⟩ := List.mem_map.1 hp
    exact piece_norm x (told_plain s s.size 0 x hx))
  have e : ((told s).1.map fun x => (normC x, normX x)).flatMap (·.1) = normL (told s).1 := by
    unfold normL; rw [List.flatMap_map]
  rw [e] at h
  have e2 : ofL (normL (told s).1) = normS s := rfl
  rw [e2] at h
  rw [h]
  simp [List.map_map, Function.comp_def]
theorem norm_norm (s : ByteArray) : normS (normS s) = normS s := by
  have h : normL ((told s).1.map normX) = normL (told s).1 := by
    unfold normL
    rw [List.flatMap_map]
    congr 1
    funext x
    exact normC_X x
  unfold normS at h ⊢
  have := told_norm s
  unfold normS at this
  rw [this, h]
theorem bytes_norm (s : ByteArray) : bytesT (normS s) = bytesT s := by
  unfold bytesT
  rw [told_norm]
  simp [List.map_map, Function.comp_def, normX]
theorem normS_size (s : ByteArray) : (normS s).size ≤ 3 * s.size := by
  have h1 : (normS s).size = (normL (told s).1).length := ofL_size _
  have h2 := normL_len (told s).1
  have h3 : (told s).1.length ≤ s.size := by
    have : ∀ f i, (toldFrom s f i).1.length ≤ f := by
      intro f
      induction f with
      | zero => intro i; simp [toldFrom]
      | succ f ih =>
        intro i
        unfold toldFrom
        repeat' split
        all_goals (simp; try exact ih _)
    exact this s.size 0
  omega
theorem encL_len (keep : ByteArray) (l : List UInt8) : (encL keep l).length ≤ 3 * l.length := by
  induction l with
  | nil => simp [encL]
  | cons c l ih =>
    unfold encL at ih ⊢
    rw [List.flatMap_cons, List.length_append, List.length_cons]
    have : (encC keep c).length ≤ 3 := by
      unfold encC
      split
      · simp
      · rw [escW_len]; exact Nat.le_refl _
    omega

/-- The digit of base 16, small. -/
def lowN (d : Nat) : Nat := if d < 10 then 48 + d else 87 + d
theorem valN_low (d : Nat) (h : d < 16) : valN (UInt8.ofNat (lowN d)).toNat = d := by
  have hl : lowN d < 256 := by unfold lowN; split <;> omega
  rw [UInt8.toNat_ofNat', Nat.mod_eq_of_lt (by exact hl)]
  unfold lowN valN
  by_cases h1 : d < 10
  · rw [if_pos h1, if_pos (by omega)]; omega
  · rw [if_neg h1, if_neg (by omega), if_pos (by omega)]; omega
def lowW (c : UInt8) : List UInt8 := [37, UInt8.ofNat (lowN (c.toNat / 16)), UInt8.ofNat (lowN (c.toNat % 16))]
theorem piece_low (c : UInt8) : Piece (lowW c) (c, true) := by
  have hb := c.toNat_lt
  exact .inr ⟨_, _, c, rfl, numRes_two _ _ c.toNat hb (valN_low _ (by omega)) (valN_low _ (by omega)), rfl⟩
theorem low_norm (l : List UInt8) : (told (ofL (l.flatMap lowW))).2 = none ∧ normS (ofL (l.flatMap lowW)) = ofL (encL ByteArray.empty l) := by
  have h := told_pieces (l.map fun c => (lowW c, (c, true))) (fun p hp => by
    obtain ⟨c, _, rfl⟩ := List.mem_map.1 hp
    exact piece_low c)
  have e : (l.map fun c => (lowW c, (c, true))).flatMap (·.1) = l.flatMap lowW := by rw [List.flatMap_map]
  rw [e] at h
  rw [h]
  refine ⟨rfl, ?_⟩
  unfold normS
  rw [h]
  show ofL (normL _) = _
  congr 1
  unfold normL encL
  rw [List.map_map, List.flatMap_map]
  congr 1
  funext c
  show normC (c, true) = encC _ c
  unfold normC encC keepB
  have hno : hasB ByteArray.empty c = false := rfl
  rw [hno, Bool.and_false, Bool.or_false]
  cases h : unres c <;> simp [h]
end Go.Proofs.YtakcfgmibijdnaaGreatDoor

/- The reference's Written: a number's digits. -/
namespace Go.Proofs.YtakcfgmibijdnaaGreatDoor
open Go.RowKit

theorem str_size (l : List UInt8) : (⟨l.toArray⟩ : ByteArray).size = l.length := by
  show l.toArray.size = _
  simp

def strLen : Value → Nat
  | .string b => b.size
  | _ => 0
def figs : ByteArray := ⟨#[48, 49, 50, 51, 52, 53, 54, 55, 56, 57, 65, 66, 67, 68, 69, 70]⟩
theorem figs_cut (i : Nat) (h : i < 16) : figs.extract i (i + 1) = ⟨#[UInt8.ofNat (figN i)]⟩ := by
  have : ∀ i : Fin 16, figs.extract i.1 (i.1 + 1) = ⟨#[UInt8.ofNat (figN i.1)]⟩ := by decide +kernel
  exact this ⟨i, h⟩
theorem ba_cons (b : UInt8) (l : List UInt8) : (⟨#[b]⟩ : ByteArray) ++ ⟨l.toArray⟩ = ⟨(b :: l).toArray⟩ := by
  apply ba_ext
  rw [data_append]
  simp
theorem digs_nought (base : Nat) (hb : 2 ≤ base) (k n : Nat) (hn : n < base ^ 64) (hk : ndigs base 64 n ≤ k) : (⟨#[48]⟩ : ByteArray) ++ ⟨(digs base k n).toArray⟩ = ⟨(digs base (k + 1) n).toArray⟩ := by
  rw [ba_cons, digs_pad]
  exact Nat.lt_of_lt_of_le (ndigs_lt base hb 64 n hn) (Nat.pow_le_pow_right (by omega) hk)
theorem figs_step (base j n m : Nat) (hm : n / base ^ j = m) (hb : 0 < base) (hb2 : base ≤ 16) : figs.extract (m % base) (m % base + 1) ++ ⟨(digs base j n).toArray⟩ = ⟨(digs base (j + 1) n).toArray⟩ := by
  rw [figs_cut _ (Nat.lt_of_lt_of_le (Nat.mod_lt _ hb) hb2), ba_cons, digs_head, hm]

set_option maxHeartbeats 1600000 in
set_option maxRecDepth 100000 in
theorem ref_Written (n base : Nat) (width : Int) (w : World) (hn : n < 18446744073709551616) (hb : 2 ≤ base) (hb2 : base ≤ 16) (hw1 : width ≤ 9223372036854775807) (hw2 : -9223372036854775808 ≤ width) :
    Calls Tryz.prog 152 #[.int .u64 (n : Int), .int .u64 (base : Int), .int .i64 width] w fun e w' => e = .returned (.string ⟨(writ base n (min width 16).toNat).toArray⟩) ∧ ∃ q, w.drewN q = w' := by
  have hJ0 : ndigs base 64 n ≤ 64 := ndigs_le _ _ _
  have hJp := ndigs_pos base hb 64 n
  have h64 : n < base ^ 64 := Nat.lt_of_lt_of_le hn (Nat.le_trans (by decide) (Nat.pow_le_pow_left hb 64))
  go_enter Tryz.func152, Tryz.ntmps152
  go_wp2_with fail
  go_loopw [0, 8] (fun m s wr => ∃ j q : Nat, j ≤ 64 ∧ (j = 0 ∨ j < ndigs base 64 n) ∧ m = .int .u64 ((n / base ^ j : Nat) : Int) ∧ s = .string ⟨(digs base j n).toArray⟩ ∧ w.drewN q = wr)
    (fun m _ _ => (intOf m).toNat)
  case atStart => exact ⟨0, 0, by omega, .inl rfl, by simp, by simp [digs], rfl⟩
  case round =>
    obtain ⟨j, q, hj64, hj, rfl, rfl, rfl⟩ := hrel
    have hp := hJp j h64
    have hp1 := hJp (j + 1) h64
    generalize hm : n / base ^ j = m at *
    have HM := Lib.hid hm
    have hml : m < 18446744073709551616 := by rw [← hm]; exact Nat.lt_of_le_of_lt (Nat.div_le_self _ _) hn
    have hm2 : n / base ^ (j + 1) = m / base := by rw [Nat.pow_succ, ← Nat.div_div_eq_div_mul, hm]
    rw [hm2] at hp1
    have HM2 := Lib.hid hm2
    have hr0 : (0 : Int) ≤ (m : Int) % (base : Int) := Int.emod_nonneg _ (by omega)
    have hr1 : (m : Int) % (base : Int) < 16 := Int.lt_of_lt_of_le (Int.emod_lt_of_pos _ (by omega)) (by omega)
    have hq0 : (0 : Int) ≤ (m : Int) / (base : Int) := Int.ediv_nonneg (by omega) (by omega)
    have hq1 : (m : Int) / (base : Int) ≤ (m : Int) := Int.ediv_le_self _ (by omega)
    have h64' := Lib.hid h64
    clear hm hm2 hJp h64
    generalize hs : digs base j n = D at *
    have hdl : D.length = j := by rw [← hs]; exact digs_length _ _ _
    have HDL := Lib.hid hdl
    have hdl2 : D.length ≤ 64 := by omega
    have HS := Lib.hid hs
    clear hdl hs
    go_wp2_with fail
    go_quiet (fail)
    have hst := figs_step base j n m HM.out (by omega) hb2
    unfold figs at hst
    rw [HS.out] at hst
    rw [hst]
    clear hst
    by_cases h0 : m / base = 0
    · have h0' : (m : Int) / (base : Int) = 0 := by exact_mod_cast h0
      have hJ : j + 1 = max (ndigs base 64 n) 1 := by omega
      have HJ := Lib.hid hJ
      have H0 := Lib.hid h0
      clear hJ h0 hp1 hp hj
      go_wp2_with fail
      obtain ⟨wo, hwo⟩ : ∃ wo : World, wo = (w.drewN q).drewN nq := ⟨_, rfl⟩
      go_loopw [8] (fun s wr => ∃ k : Nat, j + 1 ≤ k ∧ k ≤ max (j + 1) (min width 16).toNat ∧ s = .string ⟨(digs base k n).toArray⟩ ∧ ∃ q, w.drewN q = wr)
        (fun s _ => 200 - strLen s)
      case atStart => exact ⟨j + 1, Nat.le_refl _, by omega, rfl, _, rfl⟩
      case round =>
        obtain ⟨k, hk1, hk2, rfl, q2, rfl⟩ := hrel
        have hp : (⟨#[48]⟩ : ByteArray) ++ ⟨(digs base k n).toArray⟩ = ⟨(digs base (k + 1) n).toArray⟩ := digs_nought base hb k n h64'.out (by have := HJ.out; omega)
        have hsz : (⟨(digs base k n).toArray⟩ : ByteArray).size = k := by rw [str_size, digs_length]
        have hsz1 : (⟨(digs base (k + 1) n).toArray⟩ : ByteArray).size = k + 1 := by rw [str_size, digs_length]
        generalize hS : (⟨(digs base k n).toArray⟩ : ByteArray) = s at *
        generalize hS1 : (⟨(digs base (k + 1) n).toArray⟩ : ByteArray) = s1 at *
        have HP := Lib.hid hp
        have hsz' : s.size ≤ k := by omega
        have hsz'' : k ≤ s.size := by omega
        have hsz1' : s1.size ≤ k + 1 := by omega
        have hsz1'' : k + 1 ≤ s1.size := by omega
        have HS0 := Lib.hid hS
        have HS1 := Lib.hid hS1
        clear hp hsz hsz1 hS hS1
        by_cases hc : (k : Int) < width ∧ k < 16
        · obtain ⟨hc1, hc2⟩ := hc
          have c1 : (s.size : Int) < width := by omega
          have c2 : s.size < 16 := by omega
          go_wp2_with fail
          go_roundw
          case rel => exact ⟨k + 1, by omega, by omega, by rw [HP.out, HS1.out], _, rfl⟩
          case measure => rw [HP.out]; simp only [strLen]; omega
        · by_cases hc1 : (s.size : Int) < width
          · have c2 : 16 ≤ s.size := by omega
            have hfin : k = max (ndigs base 64 n) (max (min width 16).toNat 1) := by have := HJ.out; omega
            have HF := Lib.hid hfin
            clear hfin hc
            go_wp2_with fail
            go_ret
            exact ⟨ret_str (by rw [← HS0.out, writ, ← HF.out]), _, rfl⟩
          · have c1 : width ≤ (s.size : Int) := by omega
            have hfin : k = max (ndigs base 64 n) (max (min width 16).toNat 1) := by have := HJ.out; omega
            have HF := Lib.hid hfin
            clear hfin hc
            go_wp2_with fail
            go_ret
            exact ⟨ret_str (by rw [← HS0.out, writ, ← HF.out]), _, rfl⟩
    · have e0 : ((m : Int) / (base : Int) == 0) = false := by
        rw [beq_eq_false_iff_ne]; exact_mod_cast h0
      have hlt : m / base < m := by
        have : 0 < m := Nat.pos_of_ne_zero (fun h => h0 (by rw [h]; exact Nat.zero_div _))
        exact Nat.div_lt_self this hb
      go_wp2_with fail
      go_roundw
      case rel => exact ⟨j + 1, _, by omega, by omega, by rw [HM2.out]; rfl, rfl, rfl⟩
      case measure => simp [intOf]; omega
end Go.Proofs.YtakcfgmibijdnaaGreatDoor

/- Plain facts: small letters. -/
namespace Go.Proofs.YtakcfgmibijdnaaGreatDoor
open Go.RowKit

def lowerB (b : UInt8) : UInt8 := if 65 ≤ b.toNat ∧ b.toNat ≤ 90 then b + 32 else b
theorem lowerB_nat (b : UInt8) : (lowerB b).toNat = smallN b.toNat := by
  have hb := b.toNat_lt
  unfold lowerB smallN
  split
  · rw [UInt8.toNat_add]
    simp
    omega
  · rfl
theorem lowerB_idem (b : UInt8) : lowerB (lowerB b) = lowerB b := by
  have h := lowerB_nat b
  apply UInt8.toNat_inj.1
  rw [lowerB_nat, h]
  unfold smallN
  repeat' split
  all_goals omega
theorem or_letter (n : Nat) (h1 : 65 ≤ n) (h2 : n ≤ 90) : bits .or .u8 (n : Int) 32 = ((n + 32 : Nat) : Int) := by
  have : ∀ n : Fin 91, 65 ≤ n.1 → bits .or .u8 (n.1 : Int) 32 = ((n.1 + 32 : Nat) : Int) := by decide +kernel
  exact this ⟨n, by omega⟩ h1
/-- A text with small letters. -/
def lowerL (l : List UInt8) : List UInt8 := l.map lowerB
def lowerS (s : ByteArray) : ByteArray := ⟨(lowerL s.data.toList).toArray⟩
theorem lowerS_size (s : ByteArray) : (lowerS s).size = s.size := by
  show (lowerL s.data.toList).toArray.size = s.data.toList.length
  simp [lowerL]
theorem lowerS_idem (s : ByteArray) : lowerS (lowerS s) = lowerS s := by
  unfold lowerS lowerL
  apply ByteArray.ext
  apply Array.ext'
  show (s.data.toList.map lowerB).map lowerB = s.data.toList.map lowerB
  rw [List.map_map]
  exact List.map_congr_left fun x _ => lowerB_idem x
/-- So far small letters. -/
def lowTo (s : ByteArray) (i : Nat) : List UInt8 := lowerL (s.data.toList.take i) ++ s.data.toList.drop i
theorem lowTo_len (s : ByteArray) (i : Nat) : (lowTo s i).length = s.size := by
  have hl : s.data.toList.length = s.size := rfl
  simp [lowTo, lowerL]; omega
theorem lowTo_zero (s : ByteArray) : lowTo s 0 = s.data.toList := by simp [lowTo, lowerL]
theorem lowTo_all (s : ByteArray) : lowTo s s.size = (lowerS s).data.toList := by
  have hl : s.data.toList.length = s.size := rfl
  show lowerL (s.data.toList.take s.size) ++ s.data.toList.drop s.size = lowerL s.data.toList
  rw [List.take_of_length_le (by omega), List.drop_eq_nil_of_le (by omega), List.append_nil]
theorem lowTo_at {s : ByteArray} {i : Nat} (hi : i < s.size) : (lowTo s i).getD i 0 = byteAt s i := by
  have hl : s.data.toList.length = s.size := rfl
  have h1 : (lowerL (s.data.toList.take i)).length = i := by simp [lowerL]; omega
  unfold lowTo byteAt
  simp only [List.getD, List.getElem?_append, h1, Nat.lt_irrefl, if_false, Nat.sub_self, List.getElem?_drop, Nat.add_zero]
theorem lowTo_set {s : ByteArray} {i : Nat} (hi : i < s.size) : (lowTo s i).set i (lowerB (byteAt s i)) = lowTo s (i + 1) := by
  have hl : s.data.toList.length = s.size := rfl
  have hlt : i < s.data.toList.length := by omega
  have h1 : (lowerL (s.data.toList.take i)).length = i := by simp [lowerL]; omega
  have hb : byteAt s i = s.data.toList[i] := by unfold byteAt; rw [List.getD, List.getElem?_eq_getElem hlt]; rfl
  unfold lowTo
  rw [List.set_append_right _ _ (by rw [h1]; exact Nat.le_refl _), h1, Nat.sub_self, List.drop_eq_getElem_cons hlt, List.set_cons_zero, List.take_succ_eq_append_getElem hlt, hb]
  simp [lowerL]
theorem lowTo_keep {s : ByteArray} {i : Nat} (hi : i < s.size) (h : lowerB (byteAt s i) = byteAt s i) : lowTo s (i + 1) = lowTo s i := by
  rw [← lowTo_set hi, h]
  have h2 := lowTo_at hi
  have hll : i < (lowTo s i).length := by rw [lowTo_len]; exact hi
  apply List.ext_getElem?
  intro j
  rw [List.getElem?_set]
  split
  · rename_i e
    subst e
    rw [← h2, List.getD, List.getElem?_eq_getElem hll]; rfl
  · rfl
end Go.Proofs.YtakcfgmibijdnaaGreatDoor

/- A call's own bytes, as a string. -/
namespace Go.Proofs.YtakcfgmibijdnaaGreatDoor
open Go.RowKit

theorem BytesSl.conv {w : World} {a : Option Addr} {len cap : Nat} {s : ByteArray} (h : BytesSl w (.slice a len cap) s) : (convert 56 9 (.slice a len cap)).run Tryz.prog w = .ok (.string s) w := by
  rcases h with ⟨h0, a', cap', e⟩ | ⟨b, off, cap', e, h1, h2, h3, h4⟩
  · cases e
    have hs : s = ⟨#[]⟩ := by
      apply ByteArray.ext
      apply Array.eq_empty_of_size_eq_zero
      exact h0
    subst hs
    cases a with
    | none =>
      exact run_convert_bytes_nil w 56 5 Tryz.underlying56 Tryz.underlying5 0 cap 9 Tryz.underlying9
    | some ad =>
      have := run_convert_bytes_back (P := Tryz.prog) w 56 9 5 ad cap [] Tryz.underlying56 Tryz.underlying5 Tryz.underlying9 (fun j hj => by simp at hj)
      exact this
  · cases e
    have := run_convert_bytes_back (P := Tryz.prog) w 56 9 5 ⟨b, off, none⟩ cap s.data.toList Tryz.underlying56 Tryz.underlying5 Tryz.underlying9 (fun j hj => by
      have hj' : j < s.size := hj
      rw [Addr.add_lit, h4 j hj']
      simp [byteAt, List.getD, List.getElem?_eq_getElem hj])
    exact this
theorem OwnB.conv {w : World} {base : Nat} {v : Value} {l : List UInt8} (h : OwnB w base v l) : (convert 56 9 v).run Tryz.prog w = .ok (.string ⟨l.toArray⟩) w := by
  rcases h.shape with ⟨rfl, rfl⟩ | ⟨g, cap, rfl, h1, h2, h3, h4⟩
  · exact BytesSl.conv h.sl
  · exact BytesSl.conv h.sl
end Go.Proofs.YtakcfgmibijdnaaGreatDoor

/- The reference's bad, Right, Plain, escape, Decode, Normal of chapter 03. -/
namespace Go.Proofs.YtakcfgmibijdnaaGreatDoor
open Go.RowKit

theorem escOk_is {s : ByteArray} {i : Nat} (h : i + 3 ≤ s.size) : escOk s i = decide ((escRes s i).2.1 = 0) := by unfold escOk; rw [decide_eq_true h, Bool.true_and]
theorem escOk_short {s : ByteArray} {i : Nat} (h : ¬ i + 3 ≤ s.size) : escOk s i = false := by unfold escOk; rw [decide_eq_false h, Bool.false_and]
def RBadPost (s : ByteArray) (w : World) (e : Ending) (w' : World) : Prop := (∃ q, w.drewN q = w') ∧ (((told s).2 = none ∧ e = .returned (.int .i64 (-1))) ∨ (∃ i : Nat, (told s).2 = some i ∧ e = .returned (.int .i64 (i : Int))))

def unresS : ByteArray := ⟨#[97, 98, 99, 100, 101, 102, 103, 104, 105, 106, 107, 108, 109, 110, 111, 112, 113, 114, 115, 116, 117, 118, 119, 120, 121, 122, 48, 49, 50, 51, 52, 53, 54, 55, 56, 57, 45, 46, 95, 126]⟩
theorem unresS_has (c : UInt8) : hasB unresS (UInt8.ofNat (smallN c.toNat)) = unres c := by
  have : ∀ n : Fin 256, hasB unresS (UInt8.ofNat (smallN (UInt8.ofNat n.1).toNat)) = unres (UInt8.ofNat n.1) := by decide +kernel
  have h := this ⟨c.toNat, c.toNat_lt⟩
  simpa using h
theorem smallN_lt (c : UInt8) : (UInt8.ofNat (smallN c.toNat)).toNat = smallN c.toNat := by
  have h := c.toNat_lt
  rw [UInt8.toNat_ofNat']
  refine Nat.mod_eq_of_lt ?_
  unfold smallN
  split <;> omega
theorem ref_Plain (c : UInt8) (w : World) : Calls Tryz.prog 113 #[.int .u8 (c.toNat : Int)] w fun e w' => e = .returned (.bool (unres c)) ∧ w = w' := by
  have hS := fun W => ref_Small c.toNat c.toNat_lt W
  have hH := fun W => ref_Has unresS (UInt8.ofNat (smallN c.toNat)) W (by decide)
  rw [smallN_lt, unresS_has] at hH
  have HS := Lib.hid hS
  have HH := Lib.hid hH
  clear hS hH
  generalize smallN c.toNat = m at *
  go_enter Tryz.func113, Tryz.ntmps113
  go_wp2_with fail
  refine (HS.out _).mono ?_
  rintro e w1 ⟨rfl, rfl⟩
  go_wp2_with fail
  refine (HH.out _).mono ?_
  rintro e w1 ⟨rfl, rfl⟩
  go_wp2_with fail
  go_ret
  exact ⟨rfl, rfl⟩

theorem ref_escape (c : UInt8) (w : World) : Calls Tryz.prog 115 #[.int .u8 (c.toNat : Int)] w fun e w' => e = .returned (.string (ofL (escW c))) ∧ ∃ q, w.drewN q = w' := by
  have hb := c.toNat_lt
  have hw := writ2 c.toNat hb
  have hC := fun W => ref_Written c.toNat 16 2 W (by omega) (by omega) (by omega) (by omega) (by omega)
  rw [show (min (2 : Int) 16).toNat = 2 from rfl, hw] at hC
  have HC := Lib.hid hC
  have hfin := perc_app (digs 16 2 c.toNat)
  have HF := Lib.hid hfin
  clear hC hw hfin
  go_enter Tryz.func115, Tryz.ntmps115
  go_wp2_with fail
  refine (HC.out _).mono ?_
  rintro e w2 ⟨rfl, q, rfl⟩
  go_wp2_with fail
  go_ret
  exact ⟨ret_str HF.out, ⟨_, rfl⟩⟩

theorem wrap_u8' (n : Nat) (h : n ≤ 255) : IntKind.u8.wrap (n : Int) = (n : Int) := by unfold IntKind.wrap; simp [IntKind.signed, IntKind.bits]; omega

end Go.Proofs.YtakcfgmibijdnaaGreatDoor
