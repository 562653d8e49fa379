/- percent.escape; percent.each, for each of the three functions that it is handed. -/
import Derived.Test.YtajpbfffpnbhpaaDoorPctPlain
import Derived.Test.YtajpbfffpnbhpaaDoorApi
import Derived.Deep.QuietTactic
import Derived.BigQuiet
namespace Go.Proofs.YtajpbfffpnbhpaaDoor
open Go.RowKit

theorem ret_esc {a b : Int} {x y : Bool} (h : a = b) (k : x = y) : Ending.returned (.tuple #[.int .u8 a, .bool x]) = .returned (.tuple #[.int .u8 b, .bool y]) := by rw [h, k]
theorem byteAt_idx' {s : ByteArray} {i : Nat} (h : i < s.size) : s[i] = byteAt s i := by simp [byteAt, List.getD, h]; rfl

def EscPost (s : ByteArray) (i : Nat) (w : World) (e : Ending) (w' : World) : Prop := Below w.heap.size w w' ∧
  ((escOk s i = true ∧ e = .returned (.tuple #[.int .u8 ((escC s i).toNat : Int), .bool true])) ∨ (escOk s i = false ∧ e = .returned (.tuple #[.int .u8 0, .bool false])))

set_option maxHeartbeats 1600000 in
set_option maxRecDepth 100000 in
theorem percent_escape (s : ByteArray) (i : Nat) (w : World) (hs : s.size ≤ 16777216) (hi : i < s.size) : Calls Tryd.prog 37 #[.string s, .int .i64 (i : Int)] w (EscPost s i w) := by
  by_cases h3 : i + 3 ≤ s.size
  · have hsz := ext_size s (i + 1) (i + 3) (by omega) h3
    have hC := fun W => fold_Hex (s.extract (i + 1) (i + 3)) 255 W (by omega) (by omega)
    have hdef : numRes (s.extract (i + 1) (i + 3)) 16 255 = escRes s i := rfl
    have hok : escOk s i = decide ((escRes s i).2.1 = 0) := by unfold escOk; rw [decide_eq_true h3, Bool.true_and]
    have hc := @escC_nat s i
    have hz := fun h => numRes_zero (s.extract (i + 1) (i + 3)) 16 255 h
    have hm := fun h => numRes_most (s.extract (i + 1) (i + 3)) 16 255 h
    unfold NumPost at hC
    rw [hdef] at hC hz hm
    generalize escRes s i = r at *
    obtain ⟨n, k, j⟩ := r
    simp only at hC hz hm hok hc
    have HC := Lib.hid hC
    have HOK := Lib.hid hok
    have HCC := Lib.hid hc
    have HZ := Lib.hid hz
    have HM := Lib.hid hm
    have hi3 : (i : Int) + 3 ≤ (s.size : Int) := by omega
    clear hC hok hc hz hm hdef hsz h3
    go_enter Tryd.func37, Tryd.ntmps37
    go_wp2_with fail
    refine (HC.out _).mono ?_
    rintro e w1 ⟨v, rfl, hv, hb1⟩
    by_cases hk : k = 0
    · have hv0 : v = .nilIface := by
        rcases hv with ⟨_, h⟩ | ⟨h, _⟩
        · exact h
        · exact absurd hk h
      subst hv0
      have hn := HM.out hk
      have ho := HOK.out.trans (decide_eq_true hk)
      have hce := HCC.out ho
      have hw : IntKind.u8.wrap (n : Int) = (n : Int) := by unfold IntKind.wrap; simp [IntKind.signed, IntKind.bits]; omega
      have HO := Lib.hid ho
      have HCE := Lib.hid hce
      clear hk hv ho hce
      go_wp2_with fail
      go_quiet (fail)
      go_wp2_with fail
      go_ret2
      exact ⟨below_drewN hb1 _, .inl ⟨HO.out, ret_esc (by rw [HCE.out]) rfl⟩⟩
    · obtain ⟨inner, b, hvb, _⟩ : ∃ inner b, v = .iface 53 (.pointer (some ⟨b, 0, none⟩)) ∧ True := by
        rcases hv with ⟨h, _⟩ | ⟨_, n', b, h, _⟩
        · exact absurd h hk
        · exact ⟨n', b, h, trivial⟩
      subst hvb
      have hn := HZ.out hk
      have ho := HOK.out.trans (decide_eq_false hk)
      subst hn
      have HO := Lib.hid ho
      clear hk hv ho
      go_wp2_with fail
      go_quiet (fail)
      go_wp2_with fail
      go_ret2
      exact ⟨below_drewN hb1 _, .inr ⟨HO.out, rfl⟩⟩
  · have ho := Lib.hid (show escOk s i = false by unfold escOk; rw [decide_eq_false h3, Bool.false_and])
    have h3' : (s.size : Int) - (i : Int) < 3 := by omega
    clear h3
    go_enter Tryd.func37, Tryd.ntmps37
    go_wp2_with fail
    go_ret2
    exact ⟨Below.refl _ _, .inr ⟨ho.out, rfl⟩⟩

def EachPost (s : ByteArray) (Inv : List (UInt8 × Bool) → World → Prop) (e : Ending) (w' : World) : Prop :=
  Inv (told s).1 w' ∧ (((told s).2 = none ∧ e = .returned .nilIface) ∨ (∃ i, (told s).2 = some i ∧ ∃ v, e = .returned v ∧ IsFault w' v 11 i))

set_option maxHeartbeats 3200000 in
set_option maxRecDepth 100000 in
theorem each_Right (s : ByteArray) (hs : s.size ≤ 16777216) (Inv : List (UInt8 × Bool) → World → Prop) (hbelow : ∀ L w w', Inv L w → Below w.heap.size w w' → Inv L w')
    (hcall : ∀ L (c : UInt8) (esc : Bool) w, Inv L w → L.length ≤ s.size → Calls Tryd.prog 23 #[.int .u8 (c.toNat : Int), .bool esc] w fun e w' => e = .returned (.tuple #[]) ∧ Inv (L ++ [(c, esc)]) w') (w : World) (h0 : Inv [] w) :
    Calls Tryd.prog 22 #[.string s, .func (.func 23) #[] #[]] w (EachPost s Inv) := by
  have HB := Lib.hid hbelow
  have HC := Lib.hid hcall
  clear hbelow hcall
  go_enter Tryd.func22, Tryd.ntmps22
  go_wp2_with fail
  go_loopw [5] (fun x wr => ∃ (i : Nat) (l : List (UInt8 × Bool)), i ≤ s.size ∧ x = .int .i64 i ∧ Told s l i ∧ Inv l wr) (fun x _ => s.size - (intOf x).toNat)
  case atStart => exact ⟨0, [], Nat.zero_le _, rfl, Told.zero s, h0⟩
  case round =>
    obtain ⟨i, l, hil, rfl, ht, hinv⟩ := hrel
    have HT := Lib.hid ht
    have HI := Lib.hid hinv
    have hll := ht.len
    clear ht hinv
    by_cases hlt : i < s.size
    · have hbk := byteAt_idx' hlt
      have hplain := fun h => HT.out.plain hlt h
      have hesc := fun h k => HT.out.esc hlt h k
      have hbad := fun h k => HT.out.bad hlt h k
      have hle := @escOk_le s i
      rw [← hbk] at hplain hesc hbad
      have hcp := HC.out l s[i] false wr HI.out (by omega)
      have hE := percent_escape s i wr hs hlt
      unfold EscPost at hE
      have HP := Lib.hid hplain
      have HE := Lib.hid hesc
      have HBD := Lib.hid hbad
      have HLE := Lib.hid hle
      have HCP := Lib.hid hcp
      have HEC := Lib.hid hE
      clear hplain hesc hbad hle hcp hE hbk
      by_cases h37 : s[i].toNat = 37
      · have e1 : ((s[i].toNat : Int) != 37) = false := by rw [h37]; rfl
        have H37 := Lib.hid h37
        clear h37
        go_wp2_with fail
        refine (HEC.out).mono ?_
        rintro e w1 ⟨hb1, h⟩
        have hinv1 := HB.out _ _ _ HI.out hb1
        rcases h with ⟨ho, rfl⟩ | ⟨ho, rfl⟩
        · have hi3 := HLE.out ho
          have ht2 := HE.out H37.out ho
          have hcc := HC.out l (escC s i) true w1 hinv1 (by omega)
          generalize escC s i = c at *
          have HT2 := Lib.hid ht2
          have HCC := Lib.hid hcc
          clear ho ht2 hcc hinv1
          go_wp2_with fail
          refine (HCC.out).mono ?_
          rintro e w2 ⟨rfl, hinv2⟩
          have HI2 := Lib.hid hinv2
          clear hinv2
          go_wp2_with fail
          go_roundw
          case rel => exact ⟨i + 3, _, by omega, by go_num, HT2.out, HI2.out⟩
          case measure => simp [intOf]; omega
        · have hb2 := HBD.out H37.out ho
          have HB2 := Lib.hid hb2
          have HI1 := Lib.hid hinv1
          clear ho hb2 hinv1
          go_wp2_with fail
          refine (api_Fail' 11 (i : Int) _).mono ?_
          rintro e w2 ⟨v, rfl, hv, hb3⟩
          have hinv2 := HB.out _ _ _ HI1.out hb3
          have HI2 := Lib.hid hinv2
          clear hinv2
          go_wp2_with fail
          go_ret
          exact ⟨by rw [HB2.out]; exact HI2.out, .inr ⟨i, by rw [HB2.out], v, rfl, hv⟩⟩
      · have e1 : ((s[i].toNat : Int) != 37) = true := by rw [bne_iff_ne]; omega
        have ht2 := HP.out h37
        have HT2 := Lib.hid ht2
        clear h37 ht2
        go_wp2_with fail
        refine (HCP.out).mono ?_
        rintro e w2 ⟨rfl, hinv2⟩
        have HI2 := Lib.hid hinv2
        clear hinv2
        go_wp2_with fail
        go_roundw
        case rel => exact ⟨i + 1, _, by omega, by go_num, HT2.out, HI2.out⟩
        case measure => simp [intOf]; omega
    · have hd := HT.out.done hlt
      obtain rfl : i = s.size := by omega
      have HD := Lib.hid hd
      clear hd
      go_wp2_with fail
      go_ret
      exact ⟨by rw [HD.out]; exact HI.out, .inl ⟨by rw [HD.out], rfl⟩⟩

set_option maxHeartbeats 3200000 in
set_option maxRecDepth 100000 in
theorem each_Decode (b : Nat) (s : ByteArray) (hs : s.size ≤ 16777216) (Inv : List (UInt8 × Bool) → World → Prop) (hbelow : ∀ L w w', Inv L w → Below w.heap.size w w' → Inv L w')
    (hcall : ∀ L (c : UInt8) (esc : Bool) w, Inv L w → L.length ≤ s.size → Calls Tryd.prog 24 #[.int .u8 (c.toNat : Int), .bool esc, .pointer (some ⟨b, 0, none⟩)] w fun e w' => e = .returned (.tuple #[]) ∧ Inv (L ++ [(c, esc)]) w') (w : World) (h0 : Inv [] w) :
    Calls Tryd.prog 22 #[.string s, .func (.func 24) #[] #[.pointer (some ⟨b, 0, none⟩)]] w (EachPost s Inv) := by
  have HB := Lib.hid hbelow
  have HC := Lib.hid hcall
  clear hbelow hcall
  go_enter Tryd.func22, Tryd.ntmps22
  go_wp2_with fail
  go_loopw [5] (fun x wr => ∃ (i : Nat) (l : List (UInt8 × Bool)), i ≤ s.size ∧ x = .int .i64 i ∧ Told s l i ∧ Inv l wr) (fun x _ => s.size - (intOf x).toNat)
  case atStart => exact ⟨0, [], Nat.zero_le _, rfl, Told.zero s, h0⟩
  case round =>
    obtain ⟨i, l, hil, rfl, ht, hinv⟩ := hrel
    have HT := Lib.hid ht
    have HI := Lib.hid hinv
    have hll := ht.len
    clear ht hinv
    by_cases hlt : i < s.size
    · have hbk := byteAt_idx' hlt
      have hplain := fun h => HT.out.plain hlt h
      have hesc := fun h k => HT.out.esc hlt h k
      have hbad := fun h k => HT.out.bad hlt h k
      have hle := @escOk_le s i
      rw [← hbk] at hplain hesc hbad
      have hcp := HC.out l s[i] false wr HI.out (by omega)
      have hE := percent_escape s i wr hs hlt
      unfold EscPost at hE
      have HP := Lib.hid hplain
      have HE := Lib.hid hesc
      have HBD := Lib.hid hbad
      have HLE := Lib.hid hle
      have HCP := Lib.hid hcp
      have HEC := Lib.hid hE
      clear hplain hesc hbad hle hcp hE hbk
      by_cases h37 : s[i].toNat = 37
      · have e1 : ((s[i].toNat : Int) != 37) = false := by rw [h37]; rfl
        have H37 := Lib.hid h37
        clear h37
        go_wp2_with fail
        refine (HEC.out).mono ?_
        rintro e w1 ⟨hb1, h⟩
        have hinv1 := HB.out _ _ _ HI.out hb1
        rcases h with ⟨ho, rfl⟩ | ⟨ho, rfl⟩
        · have hi3 := HLE.out ho
          have ht2 := HE.out H37.out ho
          have hcc := HC.out l (escC s i) true w1 hinv1 (by omega)
          generalize escC s i = c at *
          have HT2 := Lib.hid ht2
          have HCC := Lib.hid hcc
          clear ho ht2 hcc hinv1
          go_wp2_with fail
          refine (HCC.out).mono ?_
          rintro e w2 ⟨rfl, hinv2⟩
          have HI2 := Lib.hid hinv2
          clear hinv2
          go_wp2_with fail
          go_roundw
          case rel => exact ⟨i + 3, _, by omega, by go_num, HT2.out, HI2.out⟩
          case measure => simp [intOf]; omega
        · have hb2 := HBD.out H37.out ho
          have HB2 := Lib.hid hb2
          have HI1 := Lib.hid hinv1
          clear ho hb2 hinv1
          go_wp2_with fail
          refine (api_Fail' 11 (i : Int) _).mono ?_
          rintro e w2 ⟨v, rfl, hv, hb3⟩
          have hinv2 := HB.out _ _ _ HI1.out hb3
          have HI2 := Lib.hid hinv2
          clear hinv2
          go_wp2_with fail
          go_ret
          exact ⟨by rw [HB2.out]; exact HI2.out, .inr ⟨i, by rw [HB2.out], v, rfl, hv⟩⟩
      · have e1 : ((s[i].toNat : Int) != 37) = true := by rw [bne_iff_ne]; omega
        have ht2 := HP.out h37
        have HT2 := Lib.hid ht2
        clear h37 ht2
        go_wp2_with fail
        refine (HCP.out).mono ?_
        rintro e w2 ⟨rfl, hinv2⟩
        have HI2 := Lib.hid hinv2
        clear hinv2
        go_wp2_with fail
        go_roundw
        case rel => exact ⟨i + 1, _, by omega, by go_num, HT2.out, HI2.out⟩
        case measure => simp [intOf]; omega
    · have hd := HT.out.done hlt
      obtain rfl : i = s.size := by omega
      have HD := Lib.hid hd
      clear hd
      go_wp2_with fail
      go_ret
      exact ⟨by rw [HD.out]; exact HI.out, .inl ⟨by rw [HD.out], rfl⟩⟩

set_option maxHeartbeats 3200000 in
set_option maxRecDepth 100000 in
theorem each_Normal (b : Nat) (s : ByteArray) (hs : s.size ≤ 16777216) (Inv : List (UInt8 × Bool) → World → Prop) (hbelow : ∀ L w w', Inv L w → Below w.heap.size w w' → Inv L w')
    (hcall : ∀ L (c : UInt8) (esc : Bool) w, Inv L w → L.length ≤ s.size → Calls Tryd.prog 25 #[.int .u8 (c.toNat : Int), .bool esc, .pointer (some ⟨b, 0, none⟩)] w fun e w' => e = .returned (.tuple #[]) ∧ Inv (L ++ [(c, esc)]) w') (w : World) (h0 : Inv [] w) :
    Calls Tryd.prog 22 #[.string s, .func (.func 25) #[] #[.pointer (some ⟨b, 0, none⟩)]] w (EachPost s Inv) := by
  have HB := Lib.hid hbelow
  have HC := Lib.hid hcall
  clear hbelow hcall
  go_enter Tryd.func22, Tryd.ntmps22
  go_wp2_with fail
  go_loopw [5] (fun x wr => ∃ (i : Nat) (l : List (UInt8 × Bool)), i ≤ s.size ∧ x = .int .i64 i ∧ Told s l i ∧ Inv l wr) (fun x _ => s.size - (intOf x).toNat)
  case atStart => exact ⟨0, [], Nat.zero_le _, rfl, Told.zero s, h0⟩
  case round =>
    obtain ⟨i, l, hil, rfl, ht, hinv⟩ := hrel
    have HT := Lib.hid ht
    have HI := Lib.hid hinv
    have hll := ht.len
    clear ht hinv
    by_cases hlt : i < s.size
    · have hbk := byteAt_idx' hlt
      have hplain := fun h => HT.out.plain hlt h
      have hesc := fun h k => HT.out.esc hlt h k
      have hbad := fun h k => HT.out.bad hlt h k
      have hle := @escOk_le s i
      rw [← hbk] at hplain hesc hbad
      have hcp := HC.out l s[i] false wr HI.out (by omega)
      have hE := percent_escape s i wr hs hlt
      unfold EscPost at hE
      have HP := Lib.hid hplain
      have HE := Lib.hid hesc
      have HBD := Lib.hid hbad
      have HLE := Lib.hid hle
      have HCP := Lib.hid hcp
      have HEC := Lib.hid hE
      clear hplain hesc hbad hle hcp hE hbk
      by_cases h37 : s[i].toNat = 37
      · have e1 : ((s[i].toNat : Int) != 37) = false := by rw [h37]; rfl
        have H37 := Lib.hid h37
        clear h37
        go_wp2_with fail
        refine (HEC.out).mono ?_
        rintro e w1 ⟨hb1, h⟩
        have hinv1 := HB.out _ _ _ HI.out hb1
        rcases h with ⟨ho, rfl⟩ | ⟨ho, rfl⟩
        · have hi3 := HLE.out ho
          have ht2 := HE.out H37.out ho
          have hcc := HC.out l (escC s i) true w1 hinv1 (by omega)
          generalize escC s i = c at *
          have HT2 := Lib.hid ht2
          have HCC := Lib.hid hcc
          clear ho ht2 hcc hinv1
          go_wp2_with fail
          refine (HCC.out).mono ?_
          rintro e w2 ⟨rfl, hinv2⟩
          have HI2 := Lib.hid hinv2
          clear hinv2
          go_wp2_with fail
          go_roundw
          case rel => exact ⟨i + 3, _, by omega, by go_num, HT2.out, HI2.out⟩
          case measure => simp [intOf]; omega
        · have hb2 := HBD.out H37.out ho
          have HB2 := Lib.hid hb2
          have HI1 := Lib.hid hinv1
          clear ho hb2 hinv1
          go_wp2_with fail
          refine (api_Fail' 11 (i : Int) _).mono ?_
          rintro e w2 ⟨v, rfl, hv, hb3⟩
          have hinv2 := HB.out _ _ _ HI1.out hb3
          have HI2 := Lib.hid hinv2
          clear hinv2
          go_wp2_with fail
          go_ret
          exact ⟨by rw [HB2.out]; exact HI2.out, .inr ⟨i, by rw [HB2.out], v, rfl, hv⟩⟩
      · have e1 : ((s[i].toNat : Int) != 37) = true := by rw [bne_iff_ne]; omega
        have ht2 := HP.out h37
        have HT2 := Lib.hid ht2
        clear h37 ht2
        go_wp2_with fail
        refine (HCP.out).mono ?_
        rintro e w2 ⟨rfl, hinv2⟩
        have HI2 := Lib.hid hinv2
        clear hinv2
        go_wp2_with fail
        go_roundw
        case rel => exact ⟨i + 1, _, by omega, by go_num, HT2.out, HI2.out⟩
        case measure => simp [intOf]; omega
    · have hd := HT.out.done hlt
      obtain rfl : i = s.size := by omega
      have HD := Lib.hid hd
      clear hd
      go_wp2_with fail
      go_ret
      exact ⟨by rw [HD.out]; exact HI.out, .inl ⟨by rw [HD.out], rfl⟩⟩
end Go.Proofs.YtajpbfffpnbhpaaDoor
