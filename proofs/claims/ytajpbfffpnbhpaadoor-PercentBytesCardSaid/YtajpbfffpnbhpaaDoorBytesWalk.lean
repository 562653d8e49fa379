/- The walk of PercentBytes. -/
import Derived.Test.YtajpbfffpnbhpaaDoorNormalWalk
import Derived.Deep.RegionHeld
namespace Go.Proofs.YtajpbfffpnbhpaaDoor
open Go.RowKit

theorem up_index (d : Nat) (h : d < 16) (x : Int) (hx : x = (d : Int)) (W : World) : (Instr.index 9 (.string ⟨#[48, 49, 50, 51, 52, 53, 54, 55, 56, 57, 65, 66, 67, 68, 69, 70]⟩) (.int .u8 x)).run Tryd.prog W = .ok (.int .u8 (figN d : Int)) W := by
  subst hx
  rw [run_index_string W 9 _ .u8 _ Tryd.underlying9, dif_pos (by constructor; omega; show (d : Int) < ((16 : Nat) : Int); omega)]
  have : ∀ d : Fin 16, ((⟨#[48, 49, 50, 51, 52, 53, 54, 55, 56, 57, 65, 66, 67, 68, 69, 70]⟩ : ByteArray)[d.1]'d.2).toNat = figN d.1 := by decide +kernel
  have := this ⟨d, h⟩
  simp only [Int.toNat_natCast]
  rw [this]
theorem up_conv (d : Nat) (h : d < 16) (W : World) : (convert 5 9 (.int .u8 (figN d : Int))).run Tryd.prog W = .ok (.string (ofL [UInt8.ofNat (figN d)])) W := by
  rw [run_convert_int_string W _ _ _ _ (by rw [Tryd.underlying5]; rfl) Tryd.underlying9]
  have : ∀ d : Fin 16, Utf8.encode (figN d.1 : Int) = ofL [UInt8.ofNat (figN d.1)] := by decide +kernel
  rw [this ⟨d, h⟩]
/-- Two bytes as Encode writes them, and a third with digits of both kinds. -/
def mixW (c : UInt8) : List UInt8 := [37, UInt8.ofNat (lowN (c.toNat / 16)), UInt8.ofNat (figN (c.toNat % 16))]
theorem piece_mix (c : UInt8) : Piece (mixW c) (c, true) := by
  have hb := c.toNat_lt
  exact .inr ⟨_, _, c, rfl, numRes_two _ _ c.toNat hb (valN_low _ (by omega)) (valN_fig _ (by omega)), rfl⟩
theorem piece_enc (keep : ByteArray) (c : UInt8) : Piece (encC keep c) (c, !keepB keep c) := by
  unfold encC
  cases hk : keepB keep c with
  | true => rw [if_pos rfl]; exact .inl ⟨c, rfl, keepB_ne hk, rfl⟩
  | false => rw [if_neg (by simp)]; exact piece_esc c
theorem told_three (c : UInt8) : (told (ofL (encL ByteArray.empty [c, c] ++ mixW c))).2 = none ∧ bytesT (ofL (encL ByteArray.empty [c, c] ++ mixW c)) = [c, c, c] := by
  have h := told_pieces [(encC ByteArray.empty c, (c, !keepB ByteArray.empty c)), (encC ByteArray.empty c, (c, !keepB ByteArray.empty c)), (mixW c, (c, true))] (fun p hp => by
    simp at hp
    rcases hp with rfl | rfl
    · exact piece_enc _ c
    · exact piece_mix c)
  have e : ([(encC ByteArray.empty c, (c, !keepB ByteArray.empty c)), (encC ByteArray.empty c, (c, !keepB ByteArray.empty c)), (mixW c, (c, true))] : List (List UInt8 × (UInt8 × Bool))).flatMap (·.1) = encL ByteArray.empty [c, c] ++ mixW c := by
    unfold encL
    simp
  rw [e] at h
  unfold bytesT
  rw [h]
  exact ⟨rfl, rfl⟩

set_option maxHeartbeats 3200000 in
set_option maxRecDepth 100000 in
theorem bytes_walk (c : UInt8) (w : World) (hg : Handle w) : Calls Tryd.prog 6 #[.int .u8 (c.toNat : Int)] w fun e w' => e = .returned (.bool true) ∧ Below w.heap.size w w' := by
  have hb := c.toNat_lt
  obtain ⟨ht1, ht2⟩ := told_three c
  have hq : (encS ByteArray.empty ⟨#[c, c]⟩).size ≤ 6 := by
    unfold encS
    rw [ofL_size]
    exact encL_len ByteArray.empty [c, c]
  have hout : encS ByteArray.empty ⟨#[c, c]⟩ ++ (⟨#[37]⟩ : ByteArray) ++ ofL [UInt8.ofNat (lowN (c.toNat / 16))] ++ ofL [UInt8.ofNat (figN (c.toNat % 16))] = ofL (encL ByteArray.empty [c, c] ++ mixW c) := by
    show ofL (encL ByteArray.empty [c, c]) ++ ofL [37] ++ ofL [UInt8.ofNat (lowN (c.toNat / 16))] ++ ofL [UInt8.ofNat (figN (c.toNat % 16))] = _
    rw [ofL_app, ofL_app, ofL_app]
    congr 1
    simp [mixW]
  have hsz : (ofL (encL ByteArray.empty [c, c] ++ mixW c)).size ≤ 16777216 := by
    rw [← hout]
    simp only [ByteArray.size_append, ofL_size]
    show _ + 1 + 1 + 1 ≤ _
    omega
  have r1 := fun W => low_index (c.toNat / 16) (by omega) ((c.toNat : Int) / 16) (by omega) W
  have r2 := fun W => up_index (c.toNat % 16) (by omega) ((c.toNat : Int) % 16) (by omega) W
  have r3 := fun W => low_conv (c.toNat / 16) (by omega) W
  have r4 := fun W => up_conv (c.toNat % 16) (by omega) W
  have s1 : (ofL [UInt8.ofNat (lowN (c.toNat / 16))]).size ≤ 1 := by rw [ofL_size]; exact Nat.le_refl _
  have s2 : (ofL [UInt8.ofNat (figN (c.toNat % 16))]).size ≤ 1 := by rw [ofL_size]; exact Nat.le_refl _
  have cE := Lib.hid (fun W v hv => percent_Encode v ⟨#[c, c]⟩ ByteArray.empty W (by show 2 ≤ _; omega) hv)
  have cD := Lib.hid (fun W => percent_Decode (ofL (encL ByteArray.empty [c, c] ++ mixW c)) W hsz)
  have cP := Lib.hid (fun W => percent_Plain c W)
  have cR := Lib.hid (fun W => ref_Plain c W)
  have hl2 : ∀ W : World, BytesSl (W.alloc (.cells #[.int .u8 (c.toNat : Int), .int .u8 (c.toNat : Int)] 5)) (.slice (some ⟨W.heap.size, 0, none⟩) 2 2) ⟨#[c, c]⟩ := fun W => BytesSl.lit W [c, c] _ 2 rfl rfl (by simp)
  have hl3 : ∀ W : World, (convert 27 9 (.slice (some ⟨W.heap.size, 0, none⟩) 3 3)).run Tryd.prog (W.alloc (.cells #[.int .u8 (c.toNat : Int), .int .u8 (c.toNat : Int), .int .u8 (c.toNat : Int)] 5)) = .ok (.string ⟨#[c, c, c]⟩) (W.alloc (.cells #[.int .u8 (c.toNat : Int), .int .u8 (c.toNat : Int), .int .u8 (c.toNat : Int)] 5)) := fun W => (BytesSl.lit W [c, c, c] _ 3 rfl rfl (by simp)).conv
  have HL2 := Lib.hid hl2
  have HL3 := Lib.hid hl3
  have HOUT := Lib.hid hout
  have HT1 := Lib.hid ht1
  have HT2 := Lib.hid ht2
  clear hl2 hl3 hsz ht1 ht2
  generalize ofL (encL ByteArray.empty [c, c] ++ mixW c) = T at *
  generalize lowN (c.toNat / 16) = n1 at *
  generalize figN (c.toNat % 16) = n2 at *
  generalize ofL [UInt8.ofNat n1] = d1 at *
  generalize ofL [UInt8.ofNat n2] = d2 at *
  generalize encS ByteArray.empty ⟨#[c, c]⟩ = q at *
  clear hout
  have e3 : ((⟨#[c, c, c]⟩ : ByteArray).toList == (⟨#[c, c, c]⟩ : ByteArray).toList) = true := beq_self_eq_true _
  generalize hbs : (⟨#[c, c, c]⟩ : ByteArray) = bs at *
  have HBS := Lib.hid hbs
  clear hbs
  go_enter Tryd.func6, Tryd.ntmps6
  go_wp2_with fail
  refine (speaks03 _ hg).mono ?_
  rintro e w1 ⟨rfl, hb1⟩
  clear hg
  have z1 := u8_and15 (x := (c.toNat : Int)) (by omega) (by omega)
  go_upto_region 3 with (fail)
  go_cut [3, 4] (fun v n wx => ∃ av nv cv, v = .slice av nv cv ∧ n = .nilIface ∧ (convert 27 9 (.slice av nv cv)).run Tryd.prog wx = .ok (.string bs) wx ∧ Below w1.heap.size w1 wx)
  case first =>
    clear cP cR HL3 e3
    go_region_held (fun W => Below w1.heap.size w1 W) (first | assumption | exact (Below.refl _ _).drew | exact ((Below.refl _ _).alloc (Nat.le_refl _) _).drew)
      (first
      | (go_at_call 16; refine (cE.out _ _ ((HL2.out _).below ((Below.refl _ _).drew))).mono ?_; rintro e w2 ⟨rfl, hb2⟩; have hb12 : Below w1.heap.size w1 w2 := Bt ((Below.refl _ _).alloc (Nat.le_refl _) _).drew hb2; dsimp only)
      | (go_at_call 10; rw [HOUT.out]; refine (cD.out _).mono ?_; rintro e w3 ⟨hb3, h3⟩; have hb13 : Below w1.heap.size w1 w3 := Bt hb12 hb3; rcases h3 with ⟨_, v3, rfl, hown3⟩ | ⟨j, hj, _⟩; dsimp only; rotate_left; (rw [HT1.out] at hj; cases hj)))
    all_goals
      rw [HT2.out] at hown3
      have hc3 : (convert 27 9 v3).run Tryd.prog w3 = .ok (.string bs) w3 := by rw [← HBS.out]; exact hown3.conv
      obtain ⟨av, cv, rfl⟩ := row_len hown3
      clear r1 r2 r3 r4 s1 s2 z1 cE cD hb12 HL2 hown3
      have HC := Lib.hid hc3
      clear hc3
      go_wp2_with fail
      go_meet
      exact ⟨av, _, cv, rfl, rfl, HC.out, hb13⟩
  case rest =>
    obtain ⟨av, nv, cv, rfl, rfl, hc3, hb13⟩ := hcut
    clear r1 r2 r3 r4 s1 s2 z1 cE cD HL2
    have hc4 := HL3.out
    go_wp2_with fail
    refine (cP.out _).mono ?_
    rintro e w4 ⟨rfl, rfl⟩
    go_wp2_with fail
    refine (cR.out _).mono ?_
    rintro e w5 ⟨rfl, rfl⟩
    have e5 : (unres c == unres c) = true := beq_self_eq_true _
    generalize unres c = uc at *
    go_wp2_with fail
    go_ret
    exact ⟨rfl, Bt hb1 (hb13.alloc hb13.size _)⟩

theorem walkPercentBytes (c : Int) (w : World) (hg : Handle w) (hc : (Lit.int .u8 c).wf = true) : Calls Tryd.prog 6 #[.int .u8 c] w fun e w' => e = .returned (.bool true) ∧ Below w.heap.size w w' := by
  simp [Lit.wf, IntKind.min, IntKind.max, IntKind.signed, IntKind.bits] at hc
  have h := bytes_walk (UInt8.ofNat c.toNat) w hg
  rw [UInt8.toNat_ofNat_of_lt' (by have : c.toNat < 256 := by omega
                                   exact this), Int.toNat_of_nonneg hc.1] at h
  exact h
end Go.Proofs.YtajpbfffpnbhpaaDoor
