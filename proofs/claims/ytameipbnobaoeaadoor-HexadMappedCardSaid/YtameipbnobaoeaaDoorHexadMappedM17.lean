/- The law's own text of an address of four bytes. -/
import Derived.Test.YtameipbnobaoeaaDoorHexadMappedM16
import Derived.Test.YtameipbnobaoeaaDoorHexadMappedM11

namespace Go.Proofs.YtameipbnobaoeaaDoor
open Go.RowKit

theorem conv1 (W : World) (n m : Nat) (hn : n < 256) (hm : W.heap.size = m) : (convert 55 9 (.slice (some ⟨m, 0, none⟩) 1 1)).run Tryd.prog (W.alloc (.cells #[.int .u8 (n : Int)] 5)) = .ok (.string ⟨#[UInt8.ofNat n]⟩) (W.alloc (.cells #[.int .u8 (n : Int)] 5)) := by
  subst hm
  have := run_convert_bytes_back (P := Tryd.prog) (W.alloc (.cells #[.int .u8 (n : Int)] 5)) 55 9 5 ⟨W.heap.size, 0, none⟩ 1 [UInt8.ofNat n] Tryd.underlying55 Tryd.underlying5 Tryd.underlying9 (fun j hj => by
    have : j = 0 := by simp at hj; omega
    subst this
    rw [Addr.add_lit]
    simp [cell_of_row _ _ _ _ _ _ (heap_alloc_new W (.cells #[.int .u8 (n : Int)] 5)), Nat.mod_eq_of_lt hn])
  exact this
theorem decS_list : ∀ x : Fin 256, (decS x.1).data.toList = (if 99 < x.1 then [UInt8.ofNat (48 + x.1 / 100)] else []) ++ ((if 9 < x.1 then [UInt8.ofNat (48 + x.1 / 10 % 10)] else []) ++ [UInt8.ofNat (48 + x.1 % 10)]) := by decide +kernel
theorem decS_1 {x : Nat} (h : ¬ 9 < x) : decS x = ⟨#[UInt8.ofNat (48 + x % 10)]⟩ := by
  have := decS_list ⟨x, by omega⟩
  simp only [if_neg h, if_neg (show ¬ 99 < x by omega), List.nil_append] at this
  rw [← ofL_list (decS x), this]; rfl
theorem decS_2 {x : Nat} (h : 9 < x) (h2 : ¬ 99 < x) : decS x = ⟨#[UInt8.ofNat (48 + x / 10 % 10)]⟩ ++ ⟨#[UInt8.ofNat (48 + x % 10)]⟩ := by
  have := decS_list ⟨x, by omega⟩
  simp only [if_pos h, if_neg h2, List.nil_append] at this
  rw [← ofL_list (decS x), this]; rfl
theorem decS_3 {x : Nat} (h : 99 < x) (h2 : x < 256) : decS x = ⟨#[UInt8.ofNat (48 + x / 100)]⟩ ++ (⟨#[UInt8.ofNat (48 + x / 10 % 10)]⟩ ++ ⟨#[UInt8.ofNat (48 + x % 10)]⟩) := by
  have := decS_list ⟨x, h2⟩
  simp only [if_pos h, if_pos (show 9 < x by omega)] at this
  rw [← ofL_list (decS x), this]; rfl
set_option maxHeartbeats 3200000 in
set_option maxRecDepth 100000 in
theorem law12_text (a b c d : Nat) (ha : a < 256) (hb : b < 256) (hc : c < 256) (hd : d < 256) (w : World) :
    Calls Tryd.prog 12 #[.agg #[.int .u8 (a : Int), .int .u8 (b : Int), .int .u8 (c : Int), .int .u8 (d : Int)]] w fun e w' => e = .returned (.string (textT a b c d)) ∧ Below w.heap.size w w' := by
  have hJ : ∀ i, i < 4 → 0 < i → joinTo (partsT a b c d) 46 (i + 1) = joinTo (partsT a b c d) 46 i ++ ⟨#[46]⟩ ++ decS ([a, b, c, d].getD i 0) := fun i hi h0 => by
    rw [joinTo_more _ _ _ h0]
    have : i = 1 ∨ i = 2 ∨ i = 3 := by omega
    rcases this with rfl | rfl | rfl <;> rfl
  have hJ0 : joinTo (partsT a b c d) 46 1 = ByteArray.empty ++ decS ([a, b, c, d].getD 0 0) := rfl
  have hX : ∀ i, i < 4 → [a, b, c, d].getD i 0 < 256 := fun i hi => by
    have : i = 0 ∨ i = 1 ∨ i = 2 ∨ i = 3 := by omega
    rcases this with rfl | rfl | rfl | rfl <;> simpa
  have hsz : ∀ i, i ≤ 4 → (joinTo (partsT a b c d) 46 i).size ≤ 16 := by
    have za := (dec_facts ha).2.2.2.1
    have zb := (dec_facts hb).2.2.2.1
    have zc := (dec_facts hc).2.2.2.1
    have zd := (dec_facts hd).2.2.2.1
    have hk : ∀ k, k < 4 → ((partsT a b c d).getD k ByteArray.empty).size ≤ 3 := fun k hk => by
      have : k = 0 ∨ k = 1 ∨ k = 2 ∨ k = 3 := by omega
      rcases this with rfl | rfl | rfl | rfl
      · exact za
      · exact zb
      · exact zc
      · exact zd
    have h1 : (⟨#[46]⟩ : ByteArray).size = 1 := rfl
    have he : ByteArray.empty.size = 0 := rfl
    have : ∀ i, i ≤ 4 → (joinTo (partsT a b c d) 46 i).size ≤ 4 * i := by
      intro i
      induction i with
      | zero => intro _; exact Nat.le_refl _
      | succ k ih =>
        intro h
        have := ih (by omega)
        have := hk k (by omega)
        rw [joinTo]
        split
        · next h0 => subst h0; rw [ByteArray.size_append]; omega
        · rw [ByteArray.size_append, ByteArray.size_append]; omega
    intro i hi
    have := this i hi
    omega
  have ix0 : ∀ W, (Instr.index 37 (.agg #[.int .u8 (a : Int), .int .u8 (b : Int), .int .u8 (c : Int), .int .u8 (d : Int)]) (.int .i64 0)).run Tryd.prog W = .ok (.int .u8 (a : Int)) W := fun _ => by kernel_rfl
  have ix1 : ∀ W, (Instr.index 37 (.agg #[.int .u8 (a : Int), .int .u8 (b : Int), .int .u8 (c : Int), .int .u8 (d : Int)]) (.int .i64 1)).run Tryd.prog W = .ok (.int .u8 (b : Int)) W := fun _ => by kernel_rfl
  have ix2 : ∀ W, (Instr.index 37 (.agg #[.int .u8 (a : Int), .int .u8 (b : Int), .int .u8 (c : Int), .int .u8 (d : Int)]) (.int .i64 2)).run Tryd.prog W = .ok (.int .u8 (c : Int)) W := fun _ => by kernel_rfl
  have ix3 : ∀ W, (Instr.index 37 (.agg #[.int .u8 (a : Int), .int .u8 (b : Int), .int .u8 (c : Int), .int .u8 (d : Int)]) (.int .i64 3)).run Tryd.prog W = .ok (.int .u8 (d : Int)) W := fun _ => by kernel_rfl
  have hix : ∀ i : Nat, i < 4 → ∀ W, (Instr.index 37 (.agg #[.int .u8 (a : Int), .int .u8 (b : Int), .int .u8 (c : Int), .int .u8 (d : Int)]) (.int .i64 (i : Int))).run Tryd.prog W = .ok (.int .u8 (([a, b, c, d].getD i 0 : Nat) : Int)) W := fun i hi W => by
    have : i = 0 ∨ i = 1 ∨ i = 2 ∨ i = 3 := by omega
    rcases this with rfl | rfl | rfl | rfl
    · exact ix0 W
    · exact ix1 W
    · exact ix2 W
    · exact ix3 W
  have hma := V4At.made w a b c d
  have hb0 : Below w.heap.size w (w.alloc (.cells #[.int .u8 (a : Int), .int .u8 (b : Int), .int .u8 (c : Int), .int .u8 (d : Int)] 37)) := (Below.refl _ _).alloc (Nat.le_refl _) _
  have HJ := Lib.hid hJ
  have HJ0 := Lib.hid hJ0
  have HX := Lib.hid hX
  have HSZ := Lib.hid hsz
  have HIX := Lib.hid hix
  have HT := Lib.hid (show joinTo (partsT a b c d) 46 4 = textT a b c d from rfl)
  have HE := Lib.hid (show joinTo (partsT a b c d) 46 0 = ByteArray.empty from rfl)
  clear hJ hJ0 hX hsz hix ix0 ix1 ix2 ix3
  go_enter Tryd.func12, Tryd.ntmps12
  go_wp2_with fail
  go_loopw [3, 7] (fun y x wr => ∃ i : Nat, i ≤ 4 ∧ x = .int .i64 i ∧ y = .string (joinTo (partsT a b c d) 46 i) ∧ Below w.heap.size w wr) (fun _ x _ => 4 - (intOf x).toNat)
  case atStart => exact ⟨0, Nat.zero_le _, rfl, by rw [HE.out]; rfl, hb0⟩
  case round =>
    obtain ⟨i, hil, rfl, rfl, hbr⟩ := hrel
    clear hb0 hma
    by_cases hlt : i < 4
    · have hiI : (i : Int) < 4 := by omega
      have hx := HX.out i hlt
      have hix := HIX.out i hlt
      have hs := HSZ.out i hil
      have hs1 := HSZ.out (i + 1) hlt
      generalize hxx : [a, b, c, d].getD i 0 = x at *
      have cv3 : ∀ (W : World) (m : Nat), W.heap.size = m → (convert 55 9 (.slice (some ⟨m, 0, none⟩) 1 1)).run Tryd.prog (W.alloc (.cells #[.int .u8 (48 + (x : Int) / 100)] 5)) = .ok (.string ⟨#[UInt8.ofNat (48 + x / 100)]⟩) (W.alloc (.cells #[.int .u8 (48 + (x : Int) / 100)] 5)) := fun W m hm => by
        have := conv1 W (48 + x / 100) m (by omega) hm
        rwa [show ((48 + x / 100 : Nat) : Int) = 48 + (x : Int) / 100 by omega] at this
      have cv2 : ∀ (W : World) (m : Nat), W.heap.size = m → (convert 55 9 (.slice (some ⟨m, 0, none⟩) 1 1)).run Tryd.prog (W.alloc (.cells #[.int .u8 (48 + (x : Int) / 10 % 10)] 5)) = .ok (.string ⟨#[UInt8.ofNat (48 + x / 10 % 10)]⟩) (W.alloc (.cells #[.int .u8 (48 + (x : Int) / 10 % 10)] 5)) := fun W m hm => by
        have := conv1 W (48 + x / 10 % 10) m (by omega) hm
        rwa [show ((48 + x / 10 % 10 : Nat) : Int) = 48 + (x : Int) / 10 % 10 by omega] at this
      have cv1 : ∀ (W : World) (m : Nat), W.heap.size = m → (convert 55 9 (.slice (some ⟨m, 0, none⟩) 1 1)).run Tryd.prog (W.alloc (.cells #[.int .u8 (48 + (x : Int) % 10)] 5)) = .ok (.string ⟨#[UInt8.ofNat (48 + x % 10)]⟩) (W.alloc (.cells #[.int .u8 (48 + (x : Int) % 10)] 5)) := fun W m hm => by
        have := conv1 W (48 + x % 10) m (by omega) hm
        rwa [show ((48 + x % 10 : Nat) : Int) = 48 + (x : Int) % 10 by omega] at this
      have CV1 := Lib.hid cv1
      have CV2 := Lib.hid cv2
      have CV3 := Lib.hid cv3
      clear cv1 cv2 cv3
      have D1 := Lib.hid (fun h : ¬ 9 < x => decS_1 h)
      have D2 := Lib.hid (fun (h : 9 < x) (h2 : ¬ 99 < x) => decS_2 h h2)
      have D3 := Lib.hid (fun h : 99 < x => decS_3 h hx)
      have HSX := Lib.hid (show i = 0 → joinTo (partsT a b c d) 46 (i + 1) = joinTo (partsT a b c d) 46 i ++ decS x from fun h => by rw [← hxx]; subst h; rfl)
      have HSY := Lib.hid (show i ≠ 0 → joinTo (partsT a b c d) 46 (i + 1) = joinTo (partsT a b c d) 46 i ++ ⟨#[46]⟩ ++ decS x from fun h => by rw [← hxx]; exact HJ.out i hlt (by omega))
      generalize UInt8.ofNat (48 + x / 100) = d3 at *
      generalize UInt8.ofNat (48 + x / 10 % 10) = d2 at *
      generalize UInt8.ofNat (48 + x % 10) = d1 at *
      generalize joinTo (partsT a b c d) 46 i = t at *
      generalize decS x = sx at *
      have e1 : ∀ c : UInt8, (⟨#[c]⟩ : ByteArray).size = 1 := fun _ => rfl
      clear hxx HJ HJ0 HX HSZ HIX HT HE
      by_cases h0 : i = 0
      · have hi0 : ¬ (0 : Int) < (i : Int) := by omega
        have H0 := Lib.hid h0
        clear h0
        by_cases h99 : 99 < x
        · have hI9 : (99 : Int) < (x : Int) := by omega
          have hI8 : (9 : Int) < (x : Int) := by omega
          have HE2 := Lib.hid (show joinTo (partsT a b c d) 46 (i + 1) = t ++ ⟨#[d3]⟩ ++ ⟨#[d2]⟩ ++ ⟨#[d1]⟩ from by rw [HSX.out H0.out, D3.out h99]; try simp only [ByteArray.append_assoc])
          have k3 := CV3.out (wr) (wr.heap.size) (by rfl)
          have k2 := CV2.out ((wr).alloc (.cells #[.int .u8 (48 + (x : Int) / 100)] 5)) (wr.heap.size + 1) (by simp)
          have k1 := CV1.out (((wr).alloc (.cells #[.int .u8 (48 + (x : Int) / 100)] 5)).alloc (.cells #[.int .u8 (48 + (x : Int) / 10 % 10)] 5)) (wr.heap.size + 2) (by simp)
          have hlw := hbr.size
          have HB := Lib.hid ((((hbr).alloc (by (try simp only [World.size_alloc]); omega) (.cells #[.int .u8 (48 + (x : Int) / 100)] 5)).alloc (by (try simp only [World.size_alloc]); omega) (.cells #[.int .u8 (48 + (x : Int) / 10 % 10)] 5)).alloc (by (try simp only [World.size_alloc]); omega) (.cells #[.int .u8 (48 + (x : Int) % 10)] 5))
          clear h99 hlw
          go_wp2_with fail
          go_roundw
          case rel => exact ⟨i + 1, by omega, by go_num, by rw [HE2.out], HB.out⟩
          case measure => simp [intOf]; omega
        · by_cases h9 : 9 < x
          · have hI9 : ¬ (99 : Int) < (x : Int) := by omega
            have hI8 : (9 : Int) < (x : Int) := by omega
            have HE2 := Lib.hid (show joinTo (partsT a b c d) 46 (i + 1) = t ++ ⟨#[d2]⟩ ++ ⟨#[d1]⟩ from by rw [HSX.out H0.out, D2.out h9 h99]; try simp only [ByteArray.append_assoc])
            have k2 := CV2.out (wr) (wr.heap.size) (by rfl)
            have k1 := CV1.out ((wr).alloc (.cells #[.int .u8 (48 + (x : Int) / 10 % 10)] 5)) (wr.heap.size + 1) (by simp)
            have hlw := hbr.size
            have HB := Lib.hid (((hbr).alloc (by (try simp only [World.size_alloc]); omega) (.cells #[.int .u8 (48 + (x : Int) / 10 % 10)] 5)).alloc (by (try simp only [World.size_alloc]); omega) (.cells #[.int .u8 (48 + (x : Int) % 10)] 5))
            clear h99 h9 hlw
            go_wp2_with fail
            go_roundw
            case rel => exact ⟨i + 1, by omega, by go_num, by rw [HE2.out], HB.out⟩
            case measure => simp [intOf]; omega
          · have hI9 : ¬ (99 : Int) < (x : Int) := by omega
            have hI8 : ¬ (9 : Int) < (x : Int) := by omega
            have HE2 := Lib.hid (show joinTo (partsT a b c d) 46 (i + 1) = t ++ ⟨#[d1]⟩ from by rw [HSX.out H0.out, D1.out h9]; try simp only [ByteArray.append_assoc])
            have k1 := CV1.out (wr) (wr.heap.size) (by rfl)
            have hlw := hbr.size
            have HB := Lib.hid ((hbr).alloc (by (try simp only [World.size_alloc]); omega) (.cells #[.int .u8 (48 + (x : Int) % 10)] 5))
            clear h99 h9 hlw
            go_wp2_with fail
            go_roundw
            case rel => exact ⟨i + 1, by omega, by go_num, by rw [HE2.out], HB.out⟩
            case measure => simp [intOf]; omega
      · have hi0 : (0 : Int) < (i : Int) := by omega
        have H0 := Lib.hid h0
        clear h0
        by_cases h99 : 99 < x
        · have hI9 : (99 : Int) < (x : Int) := by omega
          have hI8 : (9 : Int) < (x : Int) := by omega
          have HE2 := Lib.hid (show joinTo (partsT a b c d) 46 (i + 1) = t ++ ⟨#[46]⟩ ++ ⟨#[d3]⟩ ++ ⟨#[d2]⟩ ++ ⟨#[d1]⟩ from by rw [HSY.out H0.out, D3.out h99]; try simp only [ByteArray.append_assoc])
          have k3 := CV3.out (wr) (wr.heap.size) (by rfl)
          have k2 := CV2.out ((wr).alloc (.cells #[.int .u8 (48 + (x : Int) / 100)] 5)) (wr.heap.size + 1) (by simp)
          have k1 := CV1.out (((wr).alloc (.cells #[.int .u8 (48 + (x : Int) / 100)] 5)).alloc (.cells #[.int .u8 (48 + (x : Int) / 10 % 10)] 5)) (wr.heap.size + 2) (by simp)
          have hlw := hbr.size
          have HB := Lib.hid ((((hbr).alloc (by (try simp only [World.size_alloc]); omega) (.cells #[.int .u8 (48 + (x : Int) / 100)] 5)).alloc (by (try simp only [World.size_alloc]); omega) (.cells #[.int .u8 (48 + (x : Int) / 10 % 10)] 5)).alloc (by (try simp only [World.size_alloc]); omega) (.cells #[.int .u8 (48 + (x : Int) % 10)] 5))
          clear h99 hlw
          go_wp2_with fail
          go_roundw
          case rel => exact ⟨i + 1, by omega, by go_num, by rw [HE2.out], HB.out⟩
          case measure => simp [intOf]; omega
        · by_cases h9 : 9 < x
          · have hI9 : ¬ (99 : Int) < (x : Int) := by omega
            have hI8 : (9 : Int) < (x : Int) := by omega
            have HE2 := Lib.hid (show joinTo (partsT a b c d) 46 (i + 1) = t ++ ⟨#[46]⟩ ++ ⟨#[d2]⟩ ++ ⟨#[d1]⟩ from by rw [HSY.out H0.out, D2.out h9 h99]; try simp only [ByteArray.append_assoc])
            have k2 := CV2.out (wr) (wr.heap.size) (by rfl)
            have k1 := CV1.out ((wr).alloc (.cells #[.int .u8 (48 + (x : Int) / 10 % 10)] 5)) (wr.heap.size + 1) (by simp)
            have hlw := hbr.size
            have HB := Lib.hid (((hbr).alloc (by (try simp only [World.size_alloc]); omega) (.cells #[.int .u8 (48 + (x : Int) / 10 % 10)] 5)).alloc (by (try simp only [World.size_alloc]); omega) (.cells #[.int .u8 (48 + (x : Int) % 10)] 5))
            clear h99 h9 hlw
            go_wp2_with fail
            go_roundw
            case rel => exact ⟨i + 1, by omega, by go_num, by rw [HE2.out], HB.out⟩
            case measure => simp [intOf]; omega
          · have hI9 : ¬ (99 : Int) < (x : Int) := by omega
            have hI8 : ¬ (9 : Int) < (x : Int) := by omega
            have HE2 := Lib.hid (show joinTo (partsT a b c d) 46 (i + 1) = t ++ ⟨#[46]⟩ ++ ⟨#[d1]⟩ from by rw [HSY.out H0.out, D1.out h9]; try simp only [ByteArray.append_assoc])
            have k1 := CV1.out (wr) (wr.heap.size) (by rfl)
            have hlw := hbr.size
            have HB := Lib.hid ((hbr).alloc (by (try simp only [World.size_alloc]); omega) (.cells #[.int .u8 (48 + (x : Int) % 10)] 5))
            clear h99 h9 hlw
            go_wp2_with fail
            go_roundw
            case rel => exact ⟨i + 1, by omega, by go_num, by rw [HE2.out], HB.out⟩
            case measure => simp [intOf]; omega
    · obtain rfl : i = 4 := by omega
      rw [HT.out]
      go_wp2_with fail
      go_ret
      exact ⟨rfl, hbr⟩
end Go.Proofs.YtameipbnobaoeaaDoor
