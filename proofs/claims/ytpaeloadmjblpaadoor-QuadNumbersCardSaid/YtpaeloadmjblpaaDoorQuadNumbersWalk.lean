/- The walk of QuadNumbers. -/
import Derived.Test.YtpaeloadmjblpaaDoorQuadReadsWalk
import Derived.Test.YtpaeloadmjblpaaDoorQuadOne
namespace Go.Proofs.YtpaeloadmjblpaaDoor
open Go.RowKit

theorem pow_small {b j n : Nat} (hb : 2 ≤ b) (h : b ^ j ≤ n) (hn : n < 4294967296) : j < 32 := by
  rcases Nat.lt_or_ge j 32 with h1 | h1
  · exact h1
  · have h2 : 2 ^ 32 ≤ 2 ^ j := Nat.pow_le_pow_right (by omega) h1
    have h3 : 2 ^ j ≤ b ^ j := Nat.pow_le_pow_left hb j
    have h4 : (2 : Nat) ^ 32 = 4294967296 := by decide
    omega
theorem dF_step (f : Nat → UInt8) {b j n m : Nat} (hm : m = n / b ^ j) : ofL [f (m % b)] ++ ofL (dF f b j n) = ofL (dF f b (j + 1) n) := by
  rw [ofL_app, dF, hm]; rfl
theorem div_step {b j n m : Nat} (hm : m = n / b ^ j) : m / b = n / b ^ (j + 1) := by
  rw [hm, Nat.div_div_eq_div_mul, ← Nat.pow_succ]
theorem div_pos' {b j n m : Nat} (hb : 2 ≤ b) (hm : m = n / b ^ j) (h : 0 < m) : b ^ j ≤ n := by
  have hp : 0 < b ^ j := Nat.pow_pos (by omega)
  rcases Nat.lt_or_ge n (b ^ j) with h1 | h1
  · rw [Nat.div_eq_of_lt h1] at hm; omega
  · exact h1
theorem div_none {b j n : Nat} (hb : 2 ≤ b) (h : 0 = n / b ^ j) : n < b ^ j := by
  have hp : 0 < b ^ j := Nat.pow_pos (by omega)
  rcases Nat.lt_or_ge n (b ^ j) with h1 | h1
  · exact h1
  · have := (Nat.one_le_div_iff hp).2 h1
    omega
theorem fig8_int {d : Nat} (h : d < 10) : ((fig8 d).toNat : Int) = 48 + (d : Int) := by
  have : ∀ d : Fin 10, ((fig8 d.1).toNat : Int) = 48 + (d.1 : Int) := by decide
  exact this ⟨d, h⟩
theorem fig_string {m b : Nat} (hb : 2 ≤ b) (hb2 : b ≤ 10) (x : Int) (hx : x = 48 + ((m % b : Nat) : Int)) (W : World) : (convert 29 9 (.slice (some ⟨W.heap.size, 0, none⟩) 1 1)).run Tryd.prog (W.alloc (.cells #[.int .u8 x] 5)) = .ok (.string (ofL [fig8 (m % b)])) (W.alloc (.cells #[.int .u8 x] 5)) := by
  have hd : m % b < 10 := Nat.lt_of_lt_of_le (Nat.mod_lt _ (by omega)) hb2
  subst hx
  rw [← fig8_int hd]
  exact byte_string (fig8 (m % b)) W
theorem mix_index (d : Nat) (h : d < 16) (x : Int) (hx : x = (d : Int)) (W : World) : (Instr.index 9 (.string ⟨#[48, 49, 50, 51, 52, 53, 54, 55, 56, 57, 97, 66, 99, 68, 101, 70]⟩) (.int .u32 x)).run Tryd.prog W = .ok (.int .u8 ((figM d).toNat : Int)) W := by
  subst hx
  rw [run_index_string W 9 _ .u32 _ Tryd.underlying9, dif_pos (by constructor; omega; show (d : Int) < ((16 : Nat) : Int); omega)]
  have : ∀ d : Fin 16, ((⟨#[48, 49, 50, 51, 52, 53, 54, 55, 56, 57, 97, 66, 99, 68, 101, 70]⟩ : ByteArray)[d.1]'d.2) = figM d.1 := by decide +kernel
  have := this ⟨d, h⟩
  simp only [Int.toNat_natCast]
  rw [this]
theorem mix_conv (d : Nat) (h : d < 16) (W : World) : (convert 5 9 (.int .u8 ((figM d).toNat : Int))).run Tryd.prog W = .ok (.string (ofL [figM d])) W := by
  rw [run_convert_int_string W _ _ _ _ (by rw [Tryd.underlying5]; rfl) Tryd.underlying9]
  have : ∀ d : Fin 16, Utf8.encode ((figM d.1).toNat : Int) = ofL [figM d.1] := by decide +kernel
  rw [this ⟨d, h⟩]
theorem v4N_int {n : Nat} (hn : n < 4294967296) : v4N n = .agg #[.int .u8 ((n : Int) / 16777216), .int .u8 ((n : Int) / 65536 % 256), .int .u8 ((n : Int) / 256 % 256), .int .u8 ((n : Int) % 256)] := by
  unfold v4N v4
  rw [show ((n / 16777216 % 256 : Nat) : Int) = (n : Int) / 16777216 by omega, show ((n / 65536 % 256 : Nat) : Int) = (n : Int) / 65536 % 256 by omega, show ((n / 256 % 256 : Nat) : Int) = (n : Int) / 256 % 256 by omega, show ((n % 256 : Nat) : Int) = (n : Int) % 256 by omega]
theorem quad_Number_of (n : Nat) (hn : n < 4294967296) (W : World) : Calls Tryd.prog 8 #[.agg #[.int .u8 ((n : Int) / 16777216), .int .u8 ((n : Int) / 65536 % 256), .int .u8 ((n : Int) / 256 % 256), .int .u8 ((n : Int) % 256)]] W fun e w' => e = .returned (.int .u32 (n : Int)) ∧ Below W.heap.size W w' := by
  have h := quad_Number (n / 16777216 % 256) (n / 65536 % 256) (n / 256 % 256) (n % 256) (by omega) (by omega) (by omega) (by omega) W
  have e : ((n / 16777216 % 256 * 256 + n / 65536 % 256) * 256 + n / 256 % 256) * 256 + n % 256 = n := by omega
  rw [e] at h
  have h2 : v4 (n / 16777216 % 256 : Nat) (n / 65536 % 256 : Nat) (n / 256 % 256 : Nat) (n % 256 : Nat) = v4N n := rfl
  rw [h2, v4N_int hn] at h
  exact h

set_option maxHeartbeats 6400000 in
set_option maxRecDepth 100000 in
theorem numbers_walk11 (n : Nat) (hn : n < 4294967296) (w : World) (hg : Handle w) : Calls Tryd.prog 3 #[.int .u32 (n : Int)] w fun e w' => e = .returned (.bool true) ∧ Below w.heap.size w w' := by
  have cOf := Lib.hid (fun W => v4N_int hn ▸ quad_Of n hn W)
  have cNum := Lib.hid (fun W => quad_Number_of n hn W)
  have hne := fun W => neq_v4 ((n : Int) / 16777216) ((n : Int) / 65536 % 256) ((n : Int) / 256 % 256) ((n : Int) % 256) ((n : Int) / 16777216) ((n : Int) / 65536 % 256) ((n : Int) / 256 % 256) ((n : Int) % 256) W
  simp only [beq_self_eq_true, Bool.and_self, Bool.not_true] at hne
  have heq := fun W => eql_v4 ((n : Int) / 16777216) ((n : Int) / 65536 % 256) ((n : Int) / 256 % 256) ((n : Int) % 256) ((n : Int) / 16777216) ((n : Int) / 65536 % 256) ((n : Int) / 256 % 256) ((n : Int) % 256) W
  simp only [beq_self_eq_true, Bool.and_self] at heq
  have hei := fun W => eq_v4 ((n : Int) / 16777216) ((n : Int) / 65536 % 256) ((n : Int) / 256 % 256) ((n : Int) % 256) ((n : Int) / 16777216) ((n : Int) / 65536 % 256) ((n : Int) / 256 % 256) ((n : Int) % 256) W
  simp only [beq_self_eq_true, Bool.and_self] at hei
  have enn : ((n : Int) != (n : Int)) = false := by simp
  have hnI : (n : Int) ≤ 4294967295 := by omega
  go_enter Tryd.func3, Tryd.ntmps3
  go_wp2_with fail
  refine (speaks11 _ hg).mono ?_
  rintro e w1 ⟨rfl, hb1⟩
  go_wp2_with fail
  refine (cOf.out _).mono ?_
  rintro e w2 ⟨rfl, hb2⟩
  have hb12 := Bt hb1 hb2
  clear hb1 hb2
  go_wp2_with fail
  refine (cNum.out _).mono ?_
  rintro e w3 ⟨rfl, hb3⟩
  have hal : Below w2.heap.size w2 (w2.alloc (.cells #[.int .u8 ((n : Int) / 16777216), .int .u8 ((n : Int) / 65536 % 256), .int .u8 ((n : Int) / 256 % 256), .int .u8 ((n : Int) % 256)] 25)) := (Below.refl _ _).alloc (Nat.le_refl _) _
  have hz3 := (V4At.made w2 ((n : Int) / 16777216) ((n : Int) / 65536 % 256) ((n : Int) / 256 % 256) ((n : Int) % 256)).below hb3
  have hb13 := Bt hb12 (Bt hal hb3)
  generalize hg2 : w2.heap.size = g2 at *
  clear hb12 hal hb3 cOf cNum hg2
  -- LOOPS
  go_wp2_with fail
  go_loopw [4, 7] (fun s m wr => ∃ j k : Nat, m = .int .u32 (k : Int) ∧ s = .string (ofL (dF fig8 10 j n)) ∧ k = n / 10 ^ j ∧ j ≤ 32 ∧ (j = 0 ∨ 10 ^ (j - 1) ≤ n) ∧ Below w3.heap.size w3 wr) (fun _ m _ => (intOf m).toNat)
  case atStart => exact ⟨0, n, rfl, rfl, by simp, by omega, .inl rfl, Below.refl _ _⟩
  case round =>
    obtain ⟨j, k, rfl, rfl, hk, hj32, hten, hbr⟩ := hrel
    by_cases hpos : 0 < k
    · have hpw := div_pos' (b := 10) (by omega) hk hpos
      have hj := pow_small (b := 10) (by omega) hpw hn
      have hds := div_step hk
      have hstr := fig_string (m := k) (b := 10) (by omega) (by omega) (48 + (k : Int) % 10) (by omega) wr
      have hst := dF_step fig8 hk
      have hq1 : (ofL [fig8 (k % 10)]).size ≤ 1 := by rw [ofL_size]; exact Nat.le_refl _
      have hq2 : (ofL (dF fig8 10 j n)).size ≤ 32 := by rw [ofL_size, dF_len]; omega
      have hkI : (0 : Int) < (k : Int) := by omega
      have hk4 : k ≤ n := by rw [hk]; exact Nat.div_le_self _ _
      have hk5 : (k : Int) ≤ 4294967295 := by omega
      have hdv : (k : Int) / 10 = ((k / 10 : Nat) : Int) := by omega
      have hlt : k / 10 < k := Nat.div_lt_self hpos (by omega)
      have HST := Lib.hid hst
      have HDS := Lib.hid hds
      have HDV := Lib.hid hdv
      have HPW := Lib.hid hpw
      generalize ofL [fig8 (k % 10)] = q1 at *
      generalize ofL (dF fig8 10 j n) = q2 at *
      clear hst hds hdv hpw hk4 hten
      have HK := Lib.hid hk
      clear hk
      go_wp2_with fail
      go_roundw
      case rel => exact ⟨j + 1, k / 10, congrArg (Value.int .u32) HDV.out, congrArg Value.string HST.out, HDS.out, by omega, .inr HPW.out, (hbr.alloc hbr.size _)⟩
      case measure => simp [intOf]; omega
    · obtain rfl : k = 0 := by omega
      have hend10 : n < 10 ^ j := div_none (by omega) hk
      have H10 := Lib.hid hend10
      have HT := Lib.hid hten
      have hz10 : (ofL (dF fig8 10 j n)).size ≤ 32 := by rw [ofL_size, dF_len]; exact hj32
      obtain ⟨w4, hw4⟩ : ∃ x, x = wr := ⟨_, rfl⟩
      subst hw4
      obtain ⟨j10, hj10⟩ : ∃ x, x = j := ⟨_, rfl⟩
      subst hj10
      have hb10 := hbr
      clear hend10 hk hj32 hbr hpos hten
      go_wp2_with fail
      go_loopw [5, 8] (fun s m wr => ∃ j k : Nat, m = .int .u32 (k : Int) ∧ s = .string (ofL (dF fig8 8 j n)) ∧ k = n / 8 ^ j ∧ j ≤ 32 ∧ Below w4.heap.size w4 wr) (fun _ m _ => (intOf m).toNat)
      case atStart => exact ⟨0, n, rfl, rfl, by simp, by omega, Below.refl _ _⟩
      case round =>
        obtain ⟨j, k, rfl, rfl, hk, hj32, hbr⟩ := hrel
        by_cases hpos : 0 < k
        · have hpw := div_pos' (b := 8) (by omega) hk hpos
          have hj := pow_small (b := 8) (by omega) hpw hn
          have hds := div_step hk
          have hstr := fig_string (m := k) (b := 8) (by omega) (by omega) (48 + (k : Int) % 8) (by omega) wr
          have hst := dF_step fig8 hk
          have hq1 : (ofL [fig8 (k % 8)]).size ≤ 1 := by rw [ofL_size]; exact Nat.le_refl _
          have hq2 : (ofL (dF fig8 8 j n)).size ≤ 32 := by rw [ofL_size, dF_len]; omega
          have hkI : (0 : Int) < (k : Int) := by omega
          have hk4 : k ≤ n := by rw [hk]; exact Nat.div_le_self _ _
          have hk5 : (k : Int) ≤ 4294967295 := by omega
          have hdv : (k : Int) / 8 = ((k / 8 : Nat) : Int) := by omega
          have hlt : k / 8 < k := Nat.div_lt_self hpos (by omega)
          have HST := Lib.hid hst
          have HDS := Lib.hid hds
          have HDV := Lib.hid hdv
          have HPW := Lib.hid hpw
          generalize ofL [fig8 (k % 8)] = q1 at *
          generalize ofL (dF fig8 8 j n) = q2 at *
          clear hst hds hdv hpw hk4
          have HK := Lib.hid hk
          clear hk
          go_wp2_with fail
          go_roundw
          case rel => exact ⟨j + 1, k / 8, congrArg (Value.int .u32) HDV.out, congrArg Value.string HST.out, HDS.out, by omega, (hbr.alloc hbr.size _)⟩
          case measure => simp [intOf]; omega
        · obtain rfl : k = 0 := by omega
          have hend8 : n < 8 ^ j := div_none (by omega) hk
          have H8 := Lib.hid hend8
          have hz8 : (ofL (dF fig8 8 j n)).size ≤ 32 := by rw [ofL_size, dF_len]; exact hj32
          obtain ⟨w5, hw5⟩ : ∃ x, x = wr := ⟨_, rfl⟩
          subst hw5
          obtain ⟨j8, hj8⟩ : ∃ x, x = j := ⟨_, rfl⟩
          subst hj8
          have hb8 := hbr
          clear hend8 hk hj32 hbr hpos
          go_wp2_with fail
          go_loopw [6, 9] (fun s m wr => ∃ j k : Nat, m = .int .u32 (k : Int) ∧ s = .string (ofL (dF figM 16 j n)) ∧ k = n / 16 ^ j ∧ j ≤ 32 ∧ Below w5.heap.size w5 wr) (fun _ m _ => (intOf m).toNat)
          case atStart => exact ⟨0, n, rfl, rfl, by simp, by omega, Below.refl _ _⟩
          case round =>
            obtain ⟨j, k, rfl, rfl, hk, hj32, hbr⟩ := hrel
            by_cases hpos : 0 < k
            · have hpw := div_pos' (b := 16) (by omega) hk hpos
              have hj := pow_small (b := 16) (by omega) hpw hn
              have hds := div_step hk
              have hr1 := fun W => mix_index (k % 16) (Nat.mod_lt _ (by omega)) ((k : Int) % 16) (by omega) W
              have hr2 := fun W => mix_conv (k % 16) (Nat.mod_lt _ (by omega)) W
              have hst := dF_step figM hk
              have hq1 : (ofL [figM (k % 16)]).size ≤ 1 := by rw [ofL_size]; exact Nat.le_refl _
              have hq2 : (ofL (dF figM 16 j n)).size ≤ 32 := by rw [ofL_size, dF_len]; omega
              have hkI : (0 : Int) < (k : Int) := by omega
              have hk4 : k ≤ n := by rw [hk]; exact Nat.div_le_self _ _
              have hk5 : (k : Int) ≤ 4294967295 := by omega
              have hdv : (k : Int) / 16 = ((k / 16 : Nat) : Int) := by omega
              have hlt : k / 16 < k := Nat.div_lt_self hpos (by omega)
              have HST := Lib.hid hst
              have HDS := Lib.hid hds
              have HDV := Lib.hid hdv
              have HPW := Lib.hid hpw
              generalize (figM (k % 16)).toNat = fv at *
              generalize ofL [figM (k % 16)] = q1 at *
              generalize ofL (dF figM 16 j n) = q2 at *
              clear hst hds hdv hpw hk4
              have HK := Lib.hid hk
              clear hk
              go_wp2_with fail
              go_roundw
              case rel => exact ⟨j + 1, k / 16, congrArg (Value.int .u32) HDV.out, congrArg Value.string HST.out, HDS.out, by omega, hbr⟩
              case measure => simp [intOf]; omega
            · obtain rfl : k = 0 := by omega
              have hend16 : n < 16 ^ j := div_none (by omega) hk
              have H16 := Lib.hid hend16
              have hz16 : (ofL (dF figM 16 j n)).size ≤ 32 := by rw [ofL_size, dF_len]; exact hj32
              obtain ⟨w6, hw6⟩ : ∃ x, x = wr := ⟨_, rfl⟩
              subst hw6
              obtain ⟨j16, hj16⟩ : ∃ x, x = j := ⟨_, rfl⟩
              subst hj16
              have hb16 := hbr
              clear hend16 hk hj32 hbr hpos
              go_wp2_with fail
              have hz6 := ((hz3.below hb10).below hb8).below hb16
              have hb06 := Bt (Bt (Bt hb13 hb10) hb8) hb16
              have ex : (⟨#[48, 120]⟩ : ByteArray) ++ ofL (dF figM 16 j16 n) = ofL ([48, 120] ++ dF figM 16 j16 n) := ofL_app [48, 120] _
              have ey : (⟨#[48]⟩ : ByteArray) ++ ofL (dF fig8 8 j8 n) ++ (⟨#[46]⟩ : ByteArray) = ofL ([48] ++ dF fig8 8 j8 n ++ [46]) := by
                have h1 : (⟨#[48]⟩ : ByteArray) = ofL [48] := rfl
                have h2 : (⟨#[46]⟩ : ByteArray) = ofL [46] := rfl
                rw [h1, h2, ofL_app, ofL_app]
              have EY := Lib.hid ey
              rw [ex]
              clear hb13 hb10 hb8 hb16 hz3 ey ex
              refine (quad_Parse_right (s := ofL ([48, 120] ++ dF figM 16 j16 n)) (by rw [ofL_size, List.length_append, dF_len]; rw [ofL_size, dF_len] at hz16; simp; omega) (parse_hex j16 n H16.out hn) _).mono ?_
              rintro e w7 ⟨rfl, hb7⟩
              rw [v4N_int hn]
              have hz7 := hz6.below hb7
              have hb07 := Bt hb06 hb7
              have hal7 : Below w7.heap.size w7 (w7.alloc (.cells #[.int .u8 ((n : Int) / 16777216), .int .u8 ((n : Int) / 65536 % 256), .int .u8 ((n : Int) / 256 % 256), .int .u8 ((n : Int) % 256)] 25)) := (Below.refl _ _).alloc (Nat.le_refl _) _
              clear hb7 hz6 hb06
              go_wp2_with fail
              rw [EY.out]
              refine (quad_Parse_right (s := ofL ([48] ++ dF fig8 8 j8 n ++ [46])) (by rw [ofL_size, List.length_append, List.length_append, dF_len]; rw [ofL_size, dF_len] at hz8; simp; omega) (parse_oct j8 n H8.out hn) _).mono ?_
              rintro e w8 ⟨rfl, hb8⟩
              rw [v4N_int hn]
              have hzx8 := (V4At.made w7 ((n : Int) / 16777216) ((n : Int) / 65536 % 256) ((n : Int) / 256 % 256) ((n : Int) % 256)).below hb8
              have hza8 := (hz7.below hal7).below hb8
              have hb08 := Bt hb07 (Bt hal7 hb8)
              have hal8 : Below w8.heap.size w8 (w8.alloc (.cells #[.int .u8 ((n : Int) / 16777216), .int .u8 ((n : Int) / 65536 % 256), .int .u8 ((n : Int) / 256 % 256), .int .u8 ((n : Int) % 256)] 25)) := (Below.refl _ _).alloc (Nat.le_refl _) _
              clear hb8 hz7 hb07 hal7
              go_wp2_with fail
              by_cases hn0 : n = 0
              · obtain ⟨x0, x1, x2, x3, hx⟩ : ∃ a b c d : Int, v4N (parseQ (ofL (dF fig8 10 j10 n))).1 = .agg #[.int .u8 a, .int .u8 b, .int .u8 c, .int .u8 d] := ⟨_, _, _, _, rfl⟩
                have e0 : ((n : Int) == 0) = true := by rw [hn0]; rfl
                clear hn0
                refine (quad_Parse (ofL (dF fig8 10 j10 n)) (by omega) _).mono ?_
                rintro e w9 ⟨hb9, v, rfl, hv⟩
                rw [hx]
                have hal9 : Below w9.heap.size w9 (w9.alloc (.cells #[.int .u8 x0, .int .u8 x1, .int .u8 x2, .int .u8 x3] 25)) := (Below.refl _ _).alloc (Nat.le_refl _) _
                have hzy9 := (((V4At.made w8 ((n : Int) / 16777216) ((n : Int) / 65536 % 256) ((n : Int) / 256 % 256) ((n : Int) % 256)).below hb9).below hal9).cells
                have hzx9 := (((hzx8.below hal8).below hb9).below hal9).cells
                have hza9 := (((hza8.below hal8).below hb9).below hal9).cells
                have hb09 := Bt (Bt hb08 (Bt hal8 hb9)) hal9
                obtain ⟨p0, p1, p2, p3⟩ := hzy9
                obtain ⟨q0, q1, q2, q3⟩ := hzx9
                obtain ⟨r0, r1, r2, r3⟩ := hza9
                clear hv hx hza8 hzx8 hb9 hal8 hal9 hb08
                go_wp2_with fail
                go_ret
                exact ⟨rfl, hb09⟩
              · obtain ⟨k, rfl⟩ : ∃ k, j10 = k + 1 := ⟨j10 - 1, by
                  cases j10 with
                  | zero => have := H10.out; simp at this; omega
                  | succ k => rfl⟩
                have hp10 : 10 ^ k ≤ n := by
                  rcases HT.out with h | h
                  · omega
                  · simpa using h
                have e0 : ((n : Int) == 0) = false := by rw [beq_eq_false_iff_ne]; omega
                refine (quad_Parse_right (s := ofL (dF fig8 10 (k + 1) n)) (by omega) (parse_dec k n H10.out hn hp10) _).mono ?_
                rintro e w9 ⟨rfl, hb9⟩
                rw [v4N_int hn]
                have hal9 : Below w9.heap.size w9 (w9.alloc (.cells #[.int .u8 ((n : Int) / 16777216), .int .u8 ((n : Int) / 65536 % 256), .int .u8 ((n : Int) / 256 % 256), .int .u8 ((n : Int) % 256)] 25)) := (Below.refl _ _).alloc (Nat.le_refl _) _
                have hzy9 := (((V4At.made w8 ((n : Int) / 16777216) ((n : Int) / 65536 % 256) ((n : Int) / 256 % 256) ((n : Int) % 256)).below hb9).below hal9).cells
                have hzx9 := (((hzx8.below hal8).below hb9).below hal9).cells
                have hza9 := (((hza8.below hal8).below hb9).below hal9).cells
                have hb09 := Bt (Bt hb08 (Bt hal8 hb9)) hal9
                obtain ⟨p0, p1, p2, p3⟩ := hzy9
                obtain ⟨q0, q1, q2, q3⟩ := hzx9
                obtain ⟨r0, r1, r2, r3⟩ := hza9
                clear hza8 hzx8 hb9 hal8 hal9 hb08 hp10 hn0
                go_wp2_with fail
                go_ret
                exact ⟨rfl, hb09⟩

theorem walkQuadNumbers (n : Int) (w : World) (hg : Handle w) (hc : (Lit.int .u32 n).wf = true) : Calls Tryd.prog 3 #[.int .u32 n] w fun e w' => e = .returned (.bool true) ∧ Below w.heap.size w w' := by
  simp [Lit.wf, IntKind.min, IntKind.max, IntKind.signed, IntKind.bits] at hc
  have h := numbers_walk11 n.toNat (by omega) w hg
  rw [Int.toNat_of_nonneg hc.1] at h
  exact h
end Go.Proofs.YtpaeloadmjblpaaDoor
