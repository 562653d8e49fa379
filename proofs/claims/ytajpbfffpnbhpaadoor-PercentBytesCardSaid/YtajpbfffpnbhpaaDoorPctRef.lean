/- The reference's bad, Right, Plain, escape, Decode, Normal of chapter 03. -/
import Derived.Test.YtajpbfffpnbhpaaDoorPctCode
import Derived.Test.YtajpbfffpnbhpaaDoorOfL
import Derived.Test.YtajpbfffpnbhpaaDoorRefWritten
import Derived.Test.YtajpbfffpnbhpaaDoorLowerPlain
import Derived.Test.YtajpbfffpnbhpaaDoorOwnConv
namespace Go.Proofs.YtajpbfffpnbhpaaDoor
open Go.RowKit

theorem escOk_is {s : ByteArray} {i : Nat} (h : i + 3 ≤ s.size) : escOk s i = decide ((escRes s i).2.1 = 0) := by unfold escOk; rw [decide_eq_true h, Bool.true_and]
theorem escOk_short {s : ByteArray} {i : Nat} (h : ¬ i + 3 ≤ s.size) : escOk s i = false := by unfold escOk; rw [decide_eq_false h, Bool.false_and]
def RBadPost (s : ByteArray) (w : World) (e : Ending) (w' : World) : Prop := (∃ q, w.drewN q = w') ∧ (((told s).2 = none ∧ e = .returned (.int .i64 (-1))) ∨ (∃ i : Nat, (told s).2 = some i ∧ e = .returned (.int .i64 (i : Int))))

set_option maxHeartbeats 1600000 in
set_option maxRecDepth 100000 in
theorem ref_bad (s : ByteArray) (w : World) (hs : s.size ≤ 16777216) : Calls Tryd.prog 21 #[.string s] w (RBadPost s w) := by
  go_enter Tryd.func21, Tryd.ntmps21
  go_wp2_with fail
  go_loopw [3] (fun x wr => ∃ (i : Nat) (l : List (UInt8 × Bool)) (q : Nat), i ≤ s.size ∧ x = .int .i64 i ∧ Told s l i ∧ w.drewN q = wr) (fun x _ => s.size - (intOf x).toNat)
  case atStart => exact ⟨0, [], 0, Nat.zero_le _, rfl, Told.zero s, rfl⟩
  case round =>
    obtain ⟨i, l, q, hil, rfl, ht, rfl⟩ := hrel
    have HT := Lib.hid ht
    clear ht
    by_cases hlt : i < s.size
    · have hbk := byteAt_idx' hlt
      have hplain := fun h => HT.out.plain hlt h
      have hesc := fun h k => HT.out.esc hlt h k
      have hbad := fun h k => HT.out.bad hlt h k
      rw [← hbk] at hplain hesc hbad
      have HP := Lib.hid hplain
      have HE := Lib.hid hesc
      have HBD := Lib.hid hbad
      clear hplain hesc hbad hbk
      by_cases h37 : s[i].toNat = 37
      · have e1 : ((s[i].toNat : Int) != 37) = false := by rw [h37]; rfl
        have H37 := Lib.hid h37
        clear h37
        by_cases h3 : i + 3 ≤ s.size
        · have hok := escOk_is h3
          have hsz := ext_size s (i + 1) (i + 3) (by omega) h3
          have hC := fun W => ref_Number (s.extract (i + 1) (i + 3)) 16 255 W (by omega) (by omega) (by omega) (by omega)
          unfold RefNum at hC
          have hdef : numRes (s.extract (i + 1) (i + 3)) 16 255 = escRes s i := rfl
          rw [hdef] at hC
          generalize escRes s i = r at *
          obtain ⟨n, k, j⟩ := r
          simp only at hC hok
          have HC := Lib.hid hC
          have HOK := Lib.hid hok
          have hi3 : (i : Int) + 3 ≤ (s.size : Int) := by omega
          clear hC hok hdef hsz
          go_wp2_with fail
          refine (HC.out _).mono ?_
          rintro e w1 ⟨rfl, q2, rfl⟩
          by_cases hk : k = 0
          · subst hk
            have ht2 := HE.out H37.out (HOK.out.trans rfl)
            have HT2 := Lib.hid ht2
            clear ht2
            go_wp2_with fail
            go_roundw
            case rel => exact ⟨i + 3, _, _, by omega, by go_num, HT2.out, rfl⟩
            case measure => simp [intOf]; omega
          · have e2 : ((k : Int) != 0) = true := by rw [bne_iff_ne]; omega
            have hb2 := HBD.out H37.out (HOK.out.trans (decide_eq_false hk))
            have HB2 := Lib.hid hb2
            clear hb2 hk
            go_wp2_with fail
            go_ret
            exact ⟨⟨_, rfl⟩, .inr ⟨i, by rw [HB2.out], rfl⟩⟩
        · have hb2 := HBD.out H37.out (escOk_short h3)
          have HB2 := Lib.hid hb2
          have hi3 : (s.size : Int) < (i : Int) + 3 := by omega
          clear hb2 h3
          go_wp2_with fail
          go_ret
          exact ⟨⟨_, rfl⟩, .inr ⟨i, by rw [HB2.out], rfl⟩⟩
      · have e1 : ((s[i].toNat : Int) != 37) = true := by rw [bne_iff_ne]; omega
        have ht2 := HP.out h37
        have HT2 := Lib.hid ht2
        clear h37 ht2
        go_wp2_with fail
        go_roundw
        case rel => exact ⟨i + 1, _, _, by omega, by go_num, HT2.out, rfl⟩
        case measure => simp [intOf]; omega
    · have hd := HT.out.done hlt
      obtain rfl : i = s.size := by omega
      have HD := Lib.hid hd
      clear hd
      go_wp2_with fail
      go_ret
      exact ⟨⟨_, rfl⟩, .inl ⟨by rw [HD.out], rfl⟩⟩

theorem ref_Right03 (s : ByteArray) (w : World) (hs : s.size ≤ 16777216) : Calls Tryd.prog 8 #[.string s] w (RBadPost s w) := by
  go_enter Tryd.func8, Tryd.ntmps8
  go_wp2_with fail
  refine (ref_bad s _ hs).mono ?_
  rintro e w1 ⟨⟨q, rfl⟩, h⟩
  rcases h with ⟨hn, rfl⟩ | ⟨i, hi, rfl⟩
  · have HN := Lib.hid hn
    clear hn
    go_wp2_with fail
    go_ret
    exact ⟨⟨_, rfl⟩, .inl ⟨HN.out, rfl⟩⟩
  · have HN := Lib.hid hi
    clear hi
    go_wp2_with fail
    go_ret
    exact ⟨⟨_, rfl⟩, .inr ⟨i, HN.out, rfl⟩⟩

def unresS : ByteArray := ⟨#[97, 98, 99, 100, 101, 102, 103, 104, 105, 106, 107, 108, 109, 110, 111, 112, 113, 114, 115, 116, 117, 118, 119, 120, 121, 122, 48, 49, 50, 51, 52, 53, 54, 55, 56, 57, 45, 46, 95, 126]⟩
theorem unresS_has (c : UInt8) : hasB unresS (UInt8.ofNat (smallN c.toNat)) = unres c := by
  have : ∀ n : Fin 256, hasB unresS (UInt8.ofNat (smallN (UInt8.ofNat n.1).toNat)) = unres (UInt8.ofNat n.1) := by decide +kernel
  have h := this ⟨c.toNat, c.toNat_lt⟩
  simpa using h
theorem smallN_lt (c : UInt8) : (UInt8.ofNat (smallN c.toNat)).toNat = smallN c.toNat := by
  have h := c.toNat_lt
  rw [UInt8.toNat_ofNat']
  refine Nat.mod_eq_of_lt ?_
  unfold smallN
  split <;> omega
theorem ref_Plain (c : UInt8) (w : World) : Calls Tryd.prog 19 #[.int .u8 (c.toNat : Int)] w fun e w' => e = .returned (.bool (unres c)) ∧ w = w' := by
  have hS := fun W => ref_Small c.toNat c.toNat_lt W
  have hH := fun W => ref_Has unresS (UInt8.ofNat (smallN c.toNat)) W (by decide)
  rw [smallN_lt, unresS_has] at hH
  have HS := Lib.hid hS
  have HH := Lib.hid hH
  clear hS hH
  generalize smallN c.toNat = m at *
  go_enter Tryd.func19, Tryd.ntmps19
  go_wp2_with fail
  refine (HS.out _).mono ?_
  rintro e w1 ⟨rfl, rfl⟩
  go_wp2_with fail
  refine (HH.out _).mono ?_
  rintro e w1 ⟨rfl, rfl⟩
  go_wp2_with fail
  go_ret
  exact ⟨rfl, rfl⟩

theorem ref_escape (c : UInt8) (w : World) : Calls Tryd.prog 32 #[.int .u8 (c.toNat : Int)] w fun e w' => e = .returned (.string (ofL (escW c))) ∧ ∃ q, w.drewN q = w' := by
  have hb := c.toNat_lt
  have hw := writ2 c.toNat hb
  have hC := fun W => ref_Written c.toNat 16 2 W (by omega) (by omega) (by omega) (by omega) (by omega)
  rw [show (min (2 : Int) 16).toNat = 2 from rfl, hw] at hC
  have HC := Lib.hid hC
  have hfin := perc_app (digs 16 2 c.toNat)
  have HF := Lib.hid hfin
  clear hC hw hfin
  go_enter Tryd.func32, Tryd.ntmps32
  go_wp2_with fail
  refine (HC.out _).mono ?_
  rintro e w2 ⟨rfl, q, rfl⟩
  go_wp2_with fail
  go_ret
  exact ⟨ret_str HF.out, ⟨_, rfl⟩⟩

theorem wrap_u8' (n : Nat) (h : n ≤ 255) : IntKind.u8.wrap (n : Int) = (n : Int) := by unfold IntKind.wrap; simp [IntKind.signed, IntKind.bits]; omega

set_option maxHeartbeats 3200000 in
set_option maxRecDepth 100000 in
theorem ref_Decode (s : ByteArray) (w : World) (hs : s.size ≤ 16777216) (hr : (told s).2 = none) : Calls Tryd.prog 14 #[.string s] w fun e w' => ∃ v, e = .returned v ∧ OwnB w' w.heap.size v (bytesT s) ∧ Below w.heap.size w w' := by
  have HR := Lib.hid hr
  clear hr
  go_enter Tryd.func14, Tryd.ntmps14
  go_wp2_with fail
  go_loopw [3, 4] (fun v x wr => ∃ (i : Nat) (l : List (UInt8 × Bool)), i ≤ s.size ∧ x = .int .i64 i ∧ Told s l i ∧ OwnB wr w.heap.size v (l.map (·.1)) ∧ Below w.heap.size w wr) (fun _ x _ => s.size - (intOf x).toNat)
  case atStart => exact ⟨0, [], Nat.zero_le _, rfl, Told.zero s, OwnB.lit w [] #[] 0 rfl rfl (Nat.le_refl _) (by simp), (Below.refl _ _).alloc (Nat.le_refl _) _⟩
  case round =>
    obtain ⟨i, l, hil, rfl, ht, hown, hbr⟩ := hrel
    have HT := Lib.hid ht
    have hll := ht.len
    have hlm : (l.map (·.1)).length ≤ 16777216 := by rw [List.length_map]; omega
    clear ht
    by_cases hlt : i < s.size
    · have hbk := byteAt_idx' hlt
      have hplain := fun h => HT.out.plain hlt h
      have hesc := fun h k => HT.out.esc hlt h k
      have hbad := fun h k => HT.out.bad hlt h k
      rw [← hbk] at hplain hesc hbad
      have HP := Lib.hid hplain
      have HE := Lib.hid hesc
      have HBD := Lib.hid hbad
      clear hplain hesc hbad hbk
      by_cases h37 : s[i].toNat = 37
      · have e1 : ((s[i].toNat : Int) == 37) = true := by rw [h37]; rfl
        have hok : escOk s i = true := by
          cases hx : escOk s i with
          | true => rfl
          | false => have h1 := HBD.out h37 hx; have h2 := HR.out; rw [h1] at h2; cases h2
        have h3 := escOk_le hok
        have ht2 := HE.out h37 hok
        have hcn := escC_nat hok
        have hkz : (escRes s i).2.1 = 0 := by rw [escOk_is h3] at hok; exact of_decide_eq_true hok
        have hnm := numRes_most (s.extract (i + 1) (i + 3)) 16 255 hkz
        have hsz := ext_size s (i + 1) (i + 3) (by omega) h3
        have hC := fun W => ref_Number (s.extract (i + 1) (i + 3)) 16 255 W (by omega) (by omega) (by omega) (by omega)
        unfold RefNum at hC
        have hdef : numRes (s.extract (i + 1) (i + 3)) 16 255 = escRes s i := rfl
        rw [hdef] at hC hnm
        rw [← hcn] at hC
        generalize escRes s i = r at *
        obtain ⟨n, k, j⟩ := r
        simp only at hC hkz
        subst hkz
        generalize escC s i = c at *
        have HC := Lib.hid hC
        have HT2 := Lib.hid ht2
        have hi3 : (i : Int) + 3 ≤ (s.size : Int) := by omega
        have hw8 := wrap_u8' c.toNat (by have := c.toNat_lt; omega)
        have hmap : l.map (·.1) ++ [c] = (l ++ [(c, true)]).map (·.1) := by simp
        have HMAP := Lib.hid hmap
        clear hC hdef hsz hcn hnm hok ht2 h37 hmap
        go_wp2_with fail
        refine (HC.out _).mono ?_
        rintro e w1 ⟨rfl, q2, rfl⟩
        generalize hdw : wr.drewN q2 = w2 at *
        have hbq : Below wr.heap.size wr w2 := by rw [← hdw]; exact below_drewN (Below.refl _ _) q2
        have hown2 := (hown.below hbq).below ((Below.refl w2.heap.size w2).alloc (Nat.le_refl _) (.cells #[.int .u8 (c.toNat : Int)] 5))
        have hbr2 := (Bt hbr hbq).alloc (Bt hbr hbq).size (.cells #[.int .u8 (c.toNat : Int)] 5)
        have hy : BytesSl (w2.alloc (.cells #[.int .u8 (c.toNat : Int)] 5)) (.slice (some ⟨w2.heap.size, 0, none⟩) 1 1) ⟨#[c]⟩ := BytesSl.lit w2 [c] _ 1 rfl rfl (by simp)
        clear hown hbr hbq hdw
        go_wp2_with (at_builtin; refine wpList_app_bytes rfl _ _ rfl w.heap.size _ _ rfl hown2 _ ⟨#[c]⟩ rfl hy (by show _ + 1 ≤ _; omega) hbr2.size ?_)
        intro v3 w3 hown3 hgr
        have hb3 := hown2.under hbr2 (Nat.le_refl _) hgr
        have hown4 : OwnB w3 w.heap.size v3 ((l ++ [(c, true)]).map (·.1)) := by rw [← HMAP.out]; exact hown3
        clear hown3 hown2 hgr hbr2 hy
        go_wp2_with fail
        go_roundw
        case rel => exact ⟨i + 3, _, by omega, by go_num, HT2.out, hown4, hb3⟩
        case measure => simp [intOf]; omega
      · have e1 : ((s[i].toNat : Int) == 37) = false := by rw [beq_eq_false_iff_ne]; omega
        have ht2 := HP.out h37
        have HT2 := Lib.hid ht2
        have hmap : l.map (·.1) ++ [s[i]] = (l ++ [(s[i], false)]).map (·.1) := by simp
        have HMAP := Lib.hid hmap
        have hown2 := hown.below ((Below.refl wr.heap.size wr).alloc (Nat.le_refl _) (.cells #[.int .u8 (s[i].toNat : Int)] 5))
        have hbr2 := hbr.alloc hbr.size (.cells #[.int .u8 (s[i].toNat : Int)] 5)
        have hy : BytesSl (wr.alloc (.cells #[.int .u8 (s[i].toNat : Int)] 5)) (.slice (some ⟨wr.heap.size, 0, none⟩) 1 1) ⟨#[s[i]]⟩ := BytesSl.lit wr [s[i]] _ 1 rfl rfl (by simp)
        clear h37 ht2 hmap hown hbr
        go_wp2_with (at_builtin; refine wpList_app_bytes rfl _ _ rfl w.heap.size _ _ rfl hown2 _ ⟨#[s[i]]⟩ rfl hy (by show _ + 1 ≤ _; omega) hbr2.size ?_)
        intro v3 w3 hown3 hgr
        have hb3 := hown2.under hbr2 (Nat.le_refl _) hgr
        have hown4 : OwnB w3 w.heap.size v3 ((l ++ [(s[i], false)]).map (·.1)) := by rw [← HMAP.out]; exact hown3
        clear hown3 hown2 hgr hbr2 hy
        go_wp2_with fail
        go_roundw
        case rel => exact ⟨i + 1, _, by omega, by go_num, HT2.out, hown4, hb3⟩
        case measure => simp [intOf]; omega
    · have hd := HT.out.done hlt
      obtain rfl : i = s.size := by omega
      have hfin : bytesT s = l.map (·.1) := by unfold bytesT; rw [hd]
      have HD := Lib.hid hfin
      clear hd hfin
      go_wp2_with fail
      go_ret
      exact ⟨_, rfl, by rw [HD.out]; exact hown, hbr⟩

set_option maxHeartbeats 3200000 in
set_option maxRecDepth 100000 in
theorem ref_Normal (s : ByteArray) (w : World) (hs : s.size ≤ 16777216) (hr : (told s).2 = none) : Calls Tryd.prog 15 #[.string s] w fun e w' => e = .returned (.string (normS s)) ∧ Below w.heap.size w w' := by
  have HR := Lib.hid hr
  have HMK := Lib.hid byte_string
  clear hr
  go_enter Tryd.func15, Tryd.ntmps15
  go_wp2_with fail
  go_loopw [3, 4] (fun v x wr => ∃ (i : Nat) (l : List (UInt8 × Bool)), i ≤ s.size ∧ x = .int .i64 i ∧ Told s l i ∧ v = .string (ofL (normL l)) ∧ Below w.heap.size w wr) (fun _ x _ => s.size - (intOf x).toNat)
  case atStart => exact ⟨0, [], Nat.zero_le _, rfl, Told.zero s, rfl, Below.refl _ _⟩
  case round =>
    obtain ⟨i, l, hil, rfl, ht, rfl, hbr⟩ := hrel
    have HT := Lib.hid ht
    have hll := ht.len
    have hzd : (ofL (normL l)).size ≤ 50331648 := by rw [ofL_size]; have := normL_len l; omega
    have hsn := fun x => normL_snoc l x
    have HS := Lib.hid hsn
    clear ht hsn
    by_cases hlt : i < s.size
    · have hbk := byteAt_idx' hlt
      have hplain := fun h => HT.out.plain hlt h
      have hesc := fun h k => HT.out.esc hlt h k
      have hbad := fun h k => HT.out.bad hlt h k
      rw [← hbk] at hplain hesc hbad
      have HP := Lib.hid hplain
      have HE := Lib.hid hesc
      have HBD := Lib.hid hbad
      have hx := extract_one hlt
      rw [← hbk] at hx
      clear hplain hesc hbad hbk
      by_cases h37 : s[i].toNat = 37
      · have e1 : ((s[i].toNat : Int) != 37) = false := by rw [h37]; rfl
        have hok : escOk s i = true := by
          cases hx : escOk s i with
          | true => rfl
          | false => have h1 := HBD.out h37 hx; have h2 := HR.out; rw [h1] at h2; cases h2
        have h3 := escOk_le hok
        have ht2 := HE.out h37 hok
        have hcn := escC_nat hok
        have hkz : (escRes s i).2.1 = 0 := by rw [escOk_is h3] at hok; exact of_decide_eq_true hok
        have hsz := ext_size s (i + 1) (i + 3) (by omega) h3
        have hC := fun W => ref_Number (s.extract (i + 1) (i + 3)) 16 255 W (by omega) (by omega) (by omega) (by omega)
        unfold RefNum at hC
        have hdef : numRes (s.extract (i + 1) (i + 3)) 16 255 = escRes s i := rfl
        rw [hdef] at hC
        rw [← hcn] at hC
        generalize escRes s i = r at *
        obtain ⟨n, k, j⟩ := r
        simp only at hC hkz
        subst hkz
        generalize escC s i = c at *
        have HC := Lib.hid hC
        have HT2 := Lib.hid ht2
        have hi3 : (i : Int) + 3 ≤ (s.size : Int) := by omega
        have hw8 := wrap_u8' c.toNat (by have := c.toNat_lt; omega)
        have hP := fun W => ref_Plain c W
        have hE := fun W => ref_escape c W
        have hYes : unres c = false → ofL (normL l) ++ ofL (escW c) = ofL (normL (l ++ [(c, true)])) := fun h => by rw [ofL_app, HS.out, normC_yes h]
        have hNo : unres c = true → ofL (normL l) ++ ⟨#[c]⟩ = ofL (normL (l ++ [(c, true)])) := fun h => by rw [HS.out, normC_no (.inr h), ← ofL_app]; rfl
        have hez : (ofL (escW c)).size ≤ 3 := by rw [ofL_size, escW_len]; exact Nat.le_refl _
        have HYES := Lib.hid hYes
        have HNO := Lib.hid hNo
        have HPL := Lib.hid hP
        have HES := Lib.hid hE
        generalize ofL (normL l) = od at *
        generalize ofL (escW c) = ew at *
        clear hC hdef hsz hcn hok ht2 h37 hYes hNo hP hE hx
        go_wp2_with fail
        refine (HC.out _).mono ?_
        rintro e w1 ⟨rfl, q2, rfl⟩
        generalize hdw : wr.drewN q2 = w2 at *
        have hbq : Below wr.heap.size wr w2 := by rw [← hdw]; exact below_drewN (Below.refl _ _) q2
        have hbr2 := Bt hbr hbq
        clear hbr hbq hdw
        go_wp2_with fail
        refine (HPL.out _).mono ?_
        rintro e w1 ⟨rfl, rfl⟩
        by_cases hu : unres c = true
        · have hcv := HMK.out c w2
          have hfin := HNO.out hu
          have HF := Lib.hid hfin
          have hbr3 := hbr2.alloc hbr2.size (.cells #[.int .u8 (c.toNat : Int)] 5)
          rw [hu]
          clear hu hfin
          go_wp2_with fail
          go_roundw
          case rel => exact ⟨i + 3, _, by omega, by go_num, HT2.out, congrArg Value.string HF.out, hbr3⟩
          case measure => simp [intOf]; omega
        · have hu : unres c = false := by simpa using hu
          have hfin := HYES.out hu
          have HF := Lib.hid hfin
          rw [hu]
          clear hu hfin
          go_wp2_with fail
          refine (HES.out _).mono ?_
          rintro e w1 ⟨rfl, q3, rfl⟩
          have hbr3 := below_drewN hbr2 q3
          go_wp2_with fail
          go_roundw
          case rel => exact ⟨i + 3, _, by omega, by go_num, HT2.out, congrArg Value.string HF.out, hbr3⟩
          case measure => simp [intOf]; omega
      · have e1 : ((s[i].toNat : Int) != 37) = true := by rw [bne_iff_ne]; omega
        have ht2 := HP.out h37
        have HT2 := Lib.hid ht2
        have hfin : ofL (normL l) ++ s.extract i (i + 1) = ofL (normL (l ++ [(s[i], false)])) := by rw [hx, ofL_app, HS.out, normC_no (.inl rfl)]
        have HF := Lib.hid hfin
        have hze : (s.extract i (i + 1)).size ≤ 1 := by rw [hx, ofL_size]; exact Nat.le_refl _
        have t2 : (i : Int) + 1 ≤ (s.size : Int) := by omega
        generalize ofL (normL l) = od at *
        clear h37 ht2 hfin hx
        go_wp2_with fail
        go_roundw
        case rel => exact ⟨i + 1, _, by omega, by go_num, HT2.out, congrArg Value.string HF.out, hbr⟩
        case measure => simp [intOf]; omega
    · have hd := HT.out.done hlt
      obtain rfl : i = s.size := by omega
      have hfin : ofL (normL l) = normS s := by unfold normS; rw [hd]; rfl
      have HD := Lib.hid hfin
      clear hd hfin
      go_wp2_with fail
      go_ret
      exact ⟨ret_str HD.out, hbr⟩
end Go.Proofs.YtajpbfffpnbhpaaDoor
