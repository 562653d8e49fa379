/- A told name with a point at its end, or in great letters, in plain words. -/
import Derived.Test.YtibhohpamnpkcaaGreatDoorRouteOrderM16
import Derived.Test.YtibhohpamnpkcaaGreatDoorRouteOrderM12
import Derived.Test.YtibhohpamnpkcaaGreatDoorRouteOrderM6
import Derived.Test.YtibhohpamnpkcaaGreatDoorRouteOrderM1
import Derived.Test.YtibhohpamnpkcaaGreatDoorRouteOrderM15
import Derived.Test.YtibhohpamnpkcaaGreatDoorRouteOrderM10
import Derived.Test.YtibhohpamnpkcaaGreatDoorRouteOrderM4

namespace Go.Proofs.YtibhohpamnpkcaaGreatDoor
open Go.RowKit

/-- What a name is told as hangs on its labels alone. -/
theorem name_told {s : ByteArray} {ps xs : List ByteArray} {r : Except (Nat × Nat) ByteArray} (h0 : (cutP s).size ≠ 0) (hf : fieldsB (cutP s) = ps) (hn : nameF ps 0 = .ok xs) (hc : ps.length ≤ 127) (hz : (joinP xs).size ≤ 253) (hr : NameIs s r) : r = .ok (joinP xs) := by
  have hl := fieldsB_len (cutP s)
  rw [hf] at hl
  cases hr with
  | empty h1 => exact absurd h1 h0
  | many i h1 h2 h3 h4 =>
    have := cutAt_mono (cutP s) 46 (show i + 1 ≤ (cutP s).size from h2)
    omega
  | bad e h1 h2 h3 => rw [hf, hn] at h3; cases h3
  | long ys h1 h2 h3 h4 =>
    rw [hf, hn] at h3
    obtain rfl := Except.ok.inj h3
    omega
  | ok ys h1 h2 h3 h4 =>
    rw [hf, hn] at h3
    obtain rfl := Except.ok.inj h3
    rfl
theorem cut_dot {t : ByteArray} (h : 0 < t.size) : cutP (t ++ ⟨#[46]⟩) = t := by
  have hz : (t ++ (⟨#[46]⟩ : ByteArray)).size = t.size + 1 := by rw [ByteArray.size_append]; rfl
  have e : (t ++ (⟨#[46]⟩ : ByteArray)).data.toList = t.data.toList ++ [46] := by rw [data_append]
  have hl : t.data.toList.length = t.size := rfl
  have hb : byteAt (t ++ ⟨#[46]⟩) t.size = 46 := by
    have e2 : byteAt (t ++ ⟨#[46]⟩) t.size = (t ++ (⟨#[46]⟩ : ByteArray)).data.toList.getD t.size 0 := rfl
    rw [e2, e, ← hl]
    simp [List.getD]
  unfold cutP
  rw [hz, Nat.add_sub_cancel, if_pos ⟨by omega, hb⟩]
  apply ba_ext
  have e3 : ((t ++ (⟨#[46]⟩ : ByteArray)).extract 0 t.size).data.toList = (t ++ (⟨#[46]⟩ : ByteArray)).data.toList.take t.size := by
    rw [ByteArray.data_extract]
    simp
  rw [e3, e, ← hl, List.take_left]
theorem name_dot {t : ByteArray} {xs : List ByteArray} (h : GoodName t xs) (hz : t.size ≤ 253) {r : Except (Nat × Nat) ByteArray} (hr : NameIs (t ++ ⟨#[46]⟩) r) : r = .ok t := by
  have hp := (name_end h).1
  have hc := cut_dot hp
  have hcount := count_name h
  have := name_told (by rw [hc]; omega) (by rw [hc]; exact fields_name h) (nameF_fix xs 0 h.right) (by omega) (by rw [← h.eq]; exact hz) hr
  rw [this, ← h.eq]
theorem great_sm {b : UInt8} (h : SmB b) : greatB b ≠ 46 ∧ (greatB b).toNat < 128 := by
  have h2 := of_decide_eq_true h
  have hb := b.toNat_lt
  by_cases h1 : 97 ≤ b.toNat ∧ b.toNat ≤ 122
  · have := greatB_nat b h1.1 h1.2
    refine ⟨fun e => ?_, by omega⟩
    rw [e] at this
    have : (46 : UInt8).toNat = 46 := rfl
    omega
  · have e : greatB b = b := by unfold greatB; rw [if_neg h1]
    rw [e]
    exact ⟨sm_dot h, by omega⟩
theorem ascii_great {p : ByteArray} (h : (rightL p).1 = 0) : asciiL (greatS p) = .ok p := by
  have hs := right_bytes h
  have hg : ∀ b ∈ (greatS p).data.toList, b.toNat < 128 := fun b hb => by
    obtain ⟨c, hc, rfl⟩ := List.mem_map.1 (show b ∈ p.data.toList.map greatB from hb)
    exact (great_sm (hs c hc)).2
  have hc := chrs_low hg
  have hlo : lowerS (greatS p) = p := by rw [lowerS_great]; exact lowerS_sm hs
  have hw : wideL (chrs (greatS p)).1 = false := by
    rw [hc]
    cases hw : wideL ((greatS p).data.toList.map UInt8.toNat) with
    | false => rfl
    | true =>
      obtain ⟨c, hc, h128⟩ := List.any_eq_true.1 hw
      obtain ⟨b, hb, rfl⟩ := List.mem_map.1 hc
      have := hg b hb
      have := of_decide_eq_true h128
      omega
  rw [asciiL_low (by rw [hc]) hw (by rw [hlo]; exact h), hlo]
theorem nameF_great : ∀ (xs : List ByteArray) (a : Nat), (∀ p ∈ xs, (rightL p).1 = 0) → nameF (xs.map greatS) a = .ok xs := by
  intro xs
  induction xs with
  | nil => intro a _; rfl
  | cons x xs ih =>
    intro a h
    rw [List.map_cons, nameF_ok (ascii_great (h x (by simp))), ih _ fun p hp => h p (by simp [hp])]
    rfl
theorem great_join : ∀ l : List (List UInt8), greatL (joinA 46 l) = joinA 46 (l.map greatL) := by
  intro l
  induction l with
  | nil => rfl
  | cons p l ih =>
    cases l with
    | nil => rfl
    | cons q r =>
      show greatL (p ++ 46 :: joinA 46 (q :: r)) = greatL p ++ 46 :: joinA 46 ((q :: r).map greatL)
      rw [← ih]
      unfold greatL
      rw [List.map_append, List.map_cons]
      rfl
theorem great_name {t : ByteArray} {xs : List ByteArray} (h : GoodName t xs) : fieldsB (greatS t) = xs.map greatS ∧ cutP (greatS t) = greatS t := by
  have e : (greatS t).data.toList = joinA 46 ((xs.map (·.data.toList)).map greatL) := by
    show greatL t.data.toList = _
    rw [h.eq, joinP_data, great_join]
  constructor
  · unfold fieldsB
    rw [fields_split, e, split_join 46 _ (by intro e; exact h.ne (List.map_eq_nil_iff.1 (List.map_eq_nil_iff.1 e))) fun p hp x hx => by
      obtain ⟨q, hq, rfl⟩ := List.mem_map.1 hp
      obtain ⟨z, hz, rfl⟩ := List.mem_map.1 hq
      obtain ⟨b, hb, rfl⟩ := List.mem_map.1 (show x ∈ z.data.toList.map greatB from hx)
      exact (great_sm (right_bytes (h.right z hz) b hb)).1]
    rw [List.map_map, List.map_map]
    rfl
  · unfold cutP
    rw [if_neg]
    rintro ⟨h1, h2⟩
    have hz := greatS_size t
    have hn := (name_end h).2
    have hl : t.data.toList.length = t.size := rfl
    have hb : byteAt (greatS t) ((greatS t).size - 1) = greatB (byteAt t (t.size - 1)) := by
      rw [hz]
      have e1 : byteAt (greatS t) (t.size - 1) = (t.data.toList.map greatB).getD (t.size - 1) 0 := rfl
      have e2 : byteAt t (t.size - 1) = t.data.toList.getD (t.size - 1) 0 := rfl
      rw [e1, e2]
      simp only [List.getD, List.getElem?_map]
      rw [List.getElem?_eq_getElem (by omega)]
      rfl
    rw [hb] at h2
    have hlast : greatB (byteAt t (t.size - 1)) ≠ 46 := by
      by_cases hr : 97 ≤ (byteAt t (t.size - 1)).toNat ∧ (byteAt t (t.size - 1)).toNat ≤ 122
      · have := greatB_nat _ hr.1 hr.2
        intro e
        rw [e] at this
        have : (46 : UInt8).toNat = 46 := rfl
        omega
      · have e : greatB (byteAt t (t.size - 1)) = byteAt t (t.size - 1) := by unfold greatB; rw [if_neg hr]
        rw [e]
        exact hn
    exact hlast h2
theorem name_great {t : ByteArray} {xs : List ByteArray} (h : GoodName t xs) (hz : t.size ≤ 253) {r : Except (Nat × Nat) ByteArray} (hr : NameIs (greatS t) r) : r = .ok t := by
  obtain ⟨h1, h2⟩ := great_name h
  have hp := (name_end h).1
  have hs := greatS_size t
  have hcount := count_name h
  have := name_told (by rw [h2]; omega) (by rw [h2]; exact h1) (nameF_great xs 0 h.right) (by rw [List.length_map]; omega) (by rw [← h.eq]; exact hz) hr
  rw [this, ← h.eq]
end Go.Proofs.YtibhohpamnpkcaaGreatDoor

/- The reference's ASCII of chapter 10 (printed by gen_reflabelascii.py). -/
namespace Go.Proofs.YtibhohpamnpkcaaGreatDoor
open Go.RowKit

def AtIs (l : List Nat) (i pl : Nat) (a : Value) : Prop := (a = .int .i64 (-1) ∧ badC l 0 = badC (l.drop i) pl) ∨ ∃ k : Nat, a = .int .i64 (k : Int) ∧ badC l 0 = some k
def RAscPost (s : ByteArray) (w : World) (e : Ending) (w' : World) : Prop := Below w.heap.size w w' ∧
  ((∃ k i : Nat, asciiL s = .error (k, i) ∧ e = .returned (.tuple #[.string ⟨#[]⟩, .int .i64 (k : Int), .int .i64 (i : Int)])) ∨ ∃ t, asciiL s = .ok t ∧ e = .returned (.tuple #[.string t, .int .i64 0, .int .i64 0]))
theorem rchars_any {s : ByteArray} {w w' : World} {e : Ending} (h : RCharsPost s w e w') (hn : (chrs s).2 = none) : Below w.heap.size w w' ∧ ∃ v, e = .returned (.tuple #[v, .int .i64 (-1)]) ∧ OwnN w' w.heap.size v (lowC s) := by
  obtain ⟨hb, h⟩ := h
  rcases h with ⟨h1, v, rfl, hv⟩ | ⟨i, h1, _⟩
  · exact ⟨hb, v, rfl, by rw [lowC_ok h1]; exact hv⟩
  · rw [hn] at h1; cases h1
set_option maxHeartbeats 6400000 in
set_option maxRecDepth 100000 in
theorem ref10_ASCII (s : ByteArray) (w : World) (hs : s.size ≤ 100000) : Calls Tryz.prog 141 #[.string s] w (RAscPost s w) := by
  have c1 := Lib.hid (fun v W h2 => ref_Chars v s W (by omega) h2)
  have hls := lowerS_size s
  have c2 := Lib.hid (fun W => ref_Lower s W (by omega))
  have HUTF := Lib.hid (fun i h => asciiL_utf (s := s) (i := i) h)
  cases hc2 : (chrs s).2 with
  | some i =>
    have HA := Lib.hid (HUTF.out i hc2)
    have HX := Lib.hid hc2
    have hi : (i : Int) ≥ 0 := by omega
    clear hc2 hls
    go_enter Tryz.func141, Tryz.ntmps141
    go_wp2_with ((with_reducible refine wpList_bytes_sl rfl 9 74 5 _ rfl s rfl Tryz.underlying9 Tryz.underlying74 Tryz.underlying5 (by omega) ?_); intro v1 w2 hv1 hb2)
    refine (c1.out v1 w2 hv1).mono ?_
    rintro e w3 ⟨hb3, h3⟩
    have hbE := Bt hb2 hb3
    rcases h3 with ⟨hn, _⟩ | ⟨j, hn, pa, rfl⟩
    · rw [HX.out] at hn; cases hn
    · obtain rfl : i = j := by have := HX.out.symm.trans hn; cases this; rfl
      clear hn hb2 hb3 hv1
      go_wp2_with fail
      go_ret3
      exact ⟨hbE, .inl ⟨12, i, HA.out, rfl⟩⟩
  | none =>
    have hlc := lower_chrs hc2
    have c4 := Lib.hid (fun v W h2 => (ref_Chars v (lowerS s) W (by omega) h2).mono fun _ _ h => rchars_any h (by rw [hlc]))
    have HWC := Lib.hid (wide_lower hc2)
    have HWIDE := Lib.hid (fun h2 => asciiL_wide (s := s) hc2 h2)
    have HLOW := Lib.hid (fun h2 h3 => asciiL_low (s := s) hc2 h2 h3)
    have HERR := Lib.hid (fun h2 h3 => asciiL_err (s := s) hc2 h2 h3)
    have HR := Lib.hid (lowC_right (lowerS s))
    have hll := lowC_len (lowerS s)
    have HX := Lib.hid hc2
    clear hlc hc2
    generalize lowerS s = low at *
    generalize lowC low = l at *
    have HLZ := Lib.hid hll
    go_enter Tryz.func141, Tryz.ntmps141
    go_wp2_with ((with_reducible refine wpList_bytes_sl rfl 9 74 5 _ rfl s rfl Tryz.underlying9 Tryz.underlying74 Tryz.underlying5 (by omega) ?_); intro v1 w2 hv1 hb2)
    refine (c1.out v1 w2 hv1).mono ?_
    rintro e w3 ⟨hb3, h3⟩
    have HB3 := Lib.hid (Bt hb2 hb3)
    obtain ⟨v3, rfl⟩ : ∃ v3, e = .returned (.tuple #[v3, .int .i64 (-1)]) := by
      rcases h3 with ⟨_, v, he, _⟩ | ⟨j, hn, _⟩
      · exact ⟨v, he⟩
      · rw [HX.out] at hn; cases hn
    clear h3 hb2 hb3 hv1
    go_wp2_with fail
    refine (c2.out _).mono ?_
    rintro e w4 ⟨rfl, hb4⟩
    have HB4 := Lib.hid (Bt HB3.out hb4)
    clear hb4
    go_wp2_with ((with_reducible refine wpList_bytes_sl rfl 9 74 5 _ rfl low rfl Tryz.underlying9 Tryz.underlying74 Tryz.underlying5 (by omega) ?_); intro v4 w5 hv4 hb5)
    refine (c4.out v4 w5 hv4).mono ?_
    rintro e w6 ⟨hb6, v6, rfl, hown⟩
    have HB6 := Lib.hid (Bt (Bt HB4.out hb5) hb6)
    have HO := Lib.hid hown
    obtain ⟨va, vc, rfl⟩ := row_len hown
    clear hb5 hb6 hv4 hown
    go_wp2_with fail
    go_loopw [10, 11, 12, 13] (fun wd a p v wr => ∃ i pl : Nat, i ≤ l.length ∧ v = .int .i64 i ∧ wd = .bool (wideL (l.take i)) ∧ AtIs l i pl a ∧ p = .int .i64 pl ∧ pl ≤ 4 * i ∧ Below w6.heap.size w6 wr) (fun _ _ _ v _ => l.length - (intOf v).toNat)
    case atStart => exact ⟨0, 0, Nat.zero_le _, rfl, rfl, .inl ⟨rfl, rfl⟩, rfl, Nat.le_refl _, Below.refl _ _⟩
    case round =>
      obtain ⟨i, pl, hil, rfl, rfl, hat, rfl, hpl, hbr⟩ := hrel
      have HBR := Lib.hid hbr
      by_cases hlt : i < l.length
      · obtain ⟨g, rfl, hc1, hc2, hc⟩ := (HO.out.below hbr).getD (by omega)
        have di := hc i hlt
        have hws := wideL_snoc l i hlt
        have hdr := drop_getD (l := l) hlt
        have hrc := HR.out (l.getD i 0) (by simp [List.getD, hlt])
        obtain ⟨c', hc', _, hcm'⟩ := right_nat hrc
        have hmay : mayB (l.getD i 0) = (smallZ ((l.getD i 0 : Nat) : Int) || charZ ((l.getD i 0 : Nat) : Int)) := rfl
        have hiI : (i : Int) < (l.length : Int) := by omega
        have hl4 := putL_le (l.getD i 0)
        unfold maxLen at hc2
        generalize l.getD i 0 = x at *
        have hx2 : x ≤ 1114111 := by omega
        generalize wideL (l.take i) = wi at *
        have HWS := Lib.hid hws
        have HDR := Lib.hid hdr
        have c3 := Lib.hid (fun W => ref10_small (x : Int) W (by omega) (by omega))
        have c4 := Lib.hid (fun W => ref10_Char (x : Int) W (by omega) (by omega))
        have cP := Lib.hid (fun W => (ref_Put x (by omega) W).mono fun e w' ⟨h1, h2, _⟩ => (⟨h1, h2, trivial⟩ : _ ∧ _ ∧ True))
        clear hws hdr hrc hc' hcm' hc hbr
        by_cases h128 : x < 128
        · have f1 : (x : Int) < 128 := by omega
          have f3 : ¬ (x : Int) > 127 := by omega
          have hd : decide (128 ≤ x) = false := decide_eq_false (by omega)
          rw [char_lt h128, Bool.or_false] at hmay
          have HW2 := HWS.out
          rw [hd, Bool.or_false] at HW2
          have HW3 := Lib.hid HW2
          clear HW2 HWS hd h128
          rcases hat with ⟨rfl, hbc⟩ | ⟨k, rfl, hbc⟩
          · rw [HDR.out] at hbc
            cases hsm : smallZ (x : Int) with
            | true =>
              rw [hsm] at c3 hmay
              have HB := Lib.hid (hbc.trans (badC_next hmay))
              clear hsm hmay hbc
              cases wi
              all_goals
                go_wp2_with fail
                refine (c3.out _).mono ?_
                rintro e w5 ⟨rfl, hw5⟩
                obtain rfl := hw5
                go_wp2_with fail
                refine (cP.out _).mono ?_
                rintro e w6 ⟨rfl, hb6, _⟩
                have hbE := Bt HBR.out hb6
                clear hb6
                go_wp2_with fail
                go_roundw
                case rel => exact ⟨i + 1, pl + (putL x).length, by omega, by go_num, by first | (rw [HW3.out]; done) | (rw [HW3.out]; rfl) | (rw [HW3.out]; exact congrArg Value.bool (by simp; omega)), .inl ⟨rfl, HB.out⟩, by go_num, by omega, hbE⟩
                case measure => simp [intOf]; omega
            | false =>
              rw [hsm] at c3 hmay
              have HB := Lib.hid (hbc.trans (badC_hit hmay))
              clear hsm hmay hbc
              cases wi
              all_goals
                go_wp2_with fail
                refine (c3.out _).mono ?_
                rintro e w5 ⟨rfl, hw5⟩
                obtain rfl := hw5
                go_wp2_with fail
                refine (cP.out _).mono ?_
                rintro e w6 ⟨rfl, hb6, _⟩
                have hbE := Bt HBR.out hb6
                clear hb6
                go_wp2_with fail
                go_roundw
                case rel => exact ⟨i + 1, pl + (putL x).length, by omega, by go_num, by first | (rw [HW3.out]; done) | (rw [HW3.out]; rfl) | (rw [HW3.out]; exact congrArg Value.bool (by simp; omega)), .inr ⟨_, rfl, HB.out⟩, by go_num, by omega, hbE⟩
                case measure => simp [intOf]; omega
          · have hk : ¬ (k : Int) < 0 := by omega
            have HB := Lib.hid hbc
            clear hmay hbc
            cases wi
            all_goals
              go_wp2_with fail
              refine (cP.out _).mono ?_
              rintro e w6 ⟨rfl, hb6, _⟩
              have hbE := Bt HBR.out hb6
              clear hb6
              go_wp2_with fail
              go_roundw
              case rel => exact ⟨i + 1, pl + (putL x).length, by omega, by go_num, by first | (rw [HW3.out]; done) | (rw [HW3.out]; rfl) | (rw [HW3.out]; exact congrArg Value.bool (by simp; omega)), .inr ⟨_, rfl, HB.out⟩, by go_num, by omega, hbE⟩
              case measure => simp [intOf]; omega
        · have f1 : ¬ (x : Int) < 128 := by omega
          have f3 : (x : Int) > 127 := by omega
          have hd : decide (128 ≤ x) = true := decide_eq_true (by omega)
          rw [small_ge (by omega), Bool.false_or] at hmay
          have HW2 := HWS.out
          rw [hd, Bool.or_true] at HW2
          have HW3 := Lib.hid HW2
          clear HW2 HWS hd h128
          rcases hat with ⟨rfl, hbc⟩ | ⟨k, rfl, hbc⟩
          · rw [HDR.out] at hbc
            cases hsm : charZ (x : Int) with
            | true =>
              rw [hsm] at c4 hmay
              have HB := Lib.hid (hbc.trans (badC_next hmay))
              clear hsm hmay hbc
              cases wi
              all_goals
                go_wp2_with fail
                refine (c4.out _).mono ?_
                rintro e w5 ⟨rfl, hw5⟩
                obtain rfl := hw5
                go_wp2_with fail
                refine (cP.out _).mono ?_
                rintro e w6 ⟨rfl, hb6, _⟩
                have hbE := Bt HBR.out hb6
                clear hb6
                go_wp2_with fail
                go_roundw
                case rel => exact ⟨i + 1, pl + (putL x).length, by omega, by go_num, by first | (rw [HW3.out]; done) | (rw [HW3.out]; rfl) | (rw [HW3.out]; exact congrArg Value.bool (by simp; omega)), .inl ⟨rfl, HB.out⟩, by go_num, by omega, hbE⟩
                case measure => simp [intOf]; omega
            | false =>
              rw [hsm] at c4 hmay
              have HB := Lib.hid (hbc.trans (badC_hit hmay))
              clear hsm hmay hbc
              cases wi
              all_goals
                go_wp2_with fail
                refine (c4.out _).mono ?_
                rintro e w5 ⟨rfl, hw5⟩
                obtain rfl := hw5
                go_wp2_with fail
                refine (cP.out _).mono ?_
                rintro e w6 ⟨rfl, hb6, _⟩
                have hbE := Bt HBR.out hb6
                clear hb6
                go_wp2_with fail
                go_roundw
                case rel => exact ⟨i + 1, pl + (putL x).length, by omega, by go_num, by first | (rw [HW3.out]; done) | (rw [HW3.out]; rfl) | (rw [HW3.out]; exact congrArg Value.bool (by simp; omega)), .inr ⟨_, rfl, HB.out⟩, by go_num, by omega, hbE⟩
                case measure => simp [intOf]; omega
          · have hk : ¬ (k : Int) < 0 := by omega
            have HB := Lib.hid hbc
            clear hmay hbc
            cases wi
            all_goals
              go_wp2_with fail
              refine (cP.out _).mono ?_
              rintro e w6 ⟨rfl, hb6, _⟩
              have hbE := Bt HBR.out hb6
              clear hb6
              go_wp2_with fail
              go_roundw
              case rel => exact ⟨i + 1, pl + (putL x).length, by omega, by go_num, by first | (rw [HW3.out]; done) | (rw [HW3.out]; rfl) | (rw [HW3.out]; exact congrArg Value.bool (by simp; omega)), .inr ⟨_, rfl, HB.out⟩, by go_num, by omega, hbE⟩
              case measure => simp [intOf]; omega
      · obtain rfl : i = l.length := by omega
        have hiI : ¬ (l.length : Int) < (l.length : Int) := by omega
        rw [List.take_length]
        have HBW := Lib.hid (Bt HB6.out hbr)
        have HOr := Lib.hid (HO.out.below hbr)
        cases hwd : wideL l with
        | false =>
          have hwc := HWC.out
          rw [hwd] at hwc
          have HL := Lib.hid (HLOW.out hwc.symm)
          have HE := Lib.hid (show (rightL low).1 ≠ 0 → asciiL s = .error ((rightL low).1, (rightL low).2) from HERR.out hwc.symm)
          have c9 := Lib.hid (fun W => ref10_Right low W (by omega))
          clear hwc hwd hat hbr
          go_wp2_with fail
          refine (c9.out _).mono ?_
          rintro e w8 ⟨hb8, he8⟩
          have hbE := Bt HBW.out hb8
          clear hb8 c9
          generalize (rightL low).1 = k0 at *
          generalize (rightL low).2 = i0 at *
          subst he8
          by_cases hk : k0 = 0
          · subst hk
            have HA := Lib.hid (HL.out rfl)
            go_wp2_with fail
            go_ret3
            exact ⟨hbE, .inr ⟨_, HA.out, rfl⟩⟩
          · have HA := Lib.hid (HE.out hk)
            have hk1 : ((k0 : Int) != 0) = true := by rw [bne_iff_ne]; omega
            clear hk
            go_wp2_with fail
            go_ret3
            exact ⟨hbE, .inl ⟨_, _, HA.out, rfl⟩⟩
        | true =>
          have hwc := HWC.out
          rw [hwd] at hwc
          have HWI := Lib.hid (HWIDE.out hwc.symm)
          rcases hat with ⟨rfl, hbc⟩ | ⟨k, rfl, hbc⟩
          · rw [List.drop_length] at hbc
            have HBC := Lib.hid (show badC l 0 = none from hbc)
            have h0 : 0 < l.length := by
              apply Nat.pos_of_ne_zero
              intro h
              rw [List.eq_nil_of_length_eq_zero h] at hwd
              cases hwd
            obtain ⟨g, rfl, hc1, hc2, hc⟩ := HOr.out.getD h0
            unfold maxLen at hc2
            have cE := Lib.hid (fun W (h : OwnN W w5.heap.size (.slice (some ⟨g, 0, none⟩) l.length vc) l) => ref09_Encode _ _ W h.sl (by rw [intsN_len]; omega))
            have d0 := hc 0 h0
            have dl := hc (l.length - 1) (by omega)
            have el : (l.length : Int) - 1 = ((l.length - 1 : Nat) : Int) := by omega
            clear hwc hwd hbr hbc
            by_cases a0 : l.getD 0 0 = 45
            · have ba0 : (((l.getD 0 0 : Nat) : Int) == 45) = true := by rw [beq45, decide_eq_true a0]
              clear hc
              have HA := Lib.hid (HWI.out.trans (asciiW_marks HBC.out (marks_no (fun h => h.2.1 a0))))
              clear a0
              generalize l.getD 0 0 = x0 at *
              generalize l.getD (l.length - 1) 0 = xl at *
              go_wp2_with fail
              go_ret3
              exact ⟨HBW.out, .inl ⟨24, 0, HA.out, rfl⟩⟩
            · have ba0 : (((l.getD 0 0 : Nat) : Int) == 45) = false := by rw [beq45, decide_eq_false a0]
              by_cases a1 : l.getD (l.length - 1) 0 = 45
              · have ba1 : (((l.getD (l.length - 1) 0 : Nat) : Int) == 45) = true := by rw [beq45, decide_eq_true a1]
                clear hc
                have HA := Lib.hid (HWI.out.trans (asciiW_marks HBC.out (marks_no (fun h => h.2.2.1 a1))))
                clear a0 a1
                generalize l.getD 0 0 = x0 at *
                generalize l.getD (l.length - 1) 0 = xl at *
                go_wp2_with fail
                go_ret3
                exact ⟨HBW.out, .inl ⟨24, 0, HA.out, rfl⟩⟩
              · have ba1 : (((l.getD (l.length - 1) 0 : Nat) : Int) == 45) = false := by rw [beq45, decide_eq_false a1]
                by_cases h4 : 3 < l.length
                · have h4I : (l.length : Int) > 3 := by omega
                  have d2 := hc 2 (by omega)
                  have d3 := hc 3 (by omega)
                  clear hc
                  by_cases a2 : l.getD 2 0 = 45
                  · have ba2 : (((l.getD 2 0 : Nat) : Int) == 45) = true := by rw [beq45, decide_eq_true a2]
                    by_cases a3 : l.getD 3 0 = 45
                    · have ba3 : (((l.getD 3 0 : Nat) : Int) == 45) = true := by rw [beq45, decide_eq_true a3]
                      have HA := Lib.hid (HWI.out.trans (asciiW_marks HBC.out (marks_no (fun h => by rcases h.2.2.2 with h | h | h; exact absurd h (by omega); exact h a2; exact h a3))))
                      clear a0 a1 a2 a3
                      generalize l.getD 0 0 = x0 at *
                      generalize l.getD (l.length - 1) 0 = xl at *
                      generalize l.getD 2 0 = x2 at *
                      generalize l.getD 3 0 = x3 at *
                      go_wp2_with fail
                      go_ret3
                      exact ⟨HBW.out, .inl ⟨24, 0, HA.out, rfl⟩⟩
                    · have ba3 : (((l.getD 3 0 : Nat) : Int) == 45) = false := by rw [beq45, decide_eq_false a3]
                      have HM := Lib.hid (marks_yes h0 a0 a1 (.inr (.inr a3)))
                      clear a0 a1 a2 a3
                      generalize l.getD 0 0 = x0 at *
                      generalize l.getD (l.length - 1) 0 = xl at *
                      generalize l.getD 2 0 = x2 at *
                      generalize l.getD 3 0 = x3 at *
                      go_wp2_with fail
                      refine (cE.out _ HOr.out).mono ?_
                      rintro e w8 ⟨hb8, h8⟩
                      have hbE := Bt HBW.out hb8
                      clear hb8
                      rcases h8 with ⟨k, j, hE, hk, rfl⟩ | ⟨T, hE, rfl⟩
                      · have hl2 : 256 < l.length := by
                          apply Nat.lt_of_not_le
                          intro hle
                          rw [enc_nats HR.out hle] at hE
                          cases hE
                        have HA := Lib.hid (HWI.out.trans (asciiW_long HBC.out HM.out (.inl hl2)))
                        have hk1 : ((k : Int) != 0) = true := by rw [bne_iff_ne]; omega
                        clear hE hk hl2
                        go_wp2_with fail
                        go_ret3
                        exact ⟨hbE, .inl ⟨14, 63, HA.out, rfl⟩⟩
                      · have hl2 : l.length ≤ 256 := by
                          apply Nat.le_of_not_lt
                          intro hlt
                          rw [encE_long (by rw [intsN_len]; exact hlt)] at hE
                          cases hE
                        have hT : T = encN l := by
                          rw [enc_nats HR.out hl2] at hE
                          cases hE; rfl
                        have hTz : (⟨T.toArray⟩ : ByteArray).size = T.length := by show T.toArray.size = _; simp
                        have hTl := encN_len hl2 HR.out
                        have hxa := xn_app T
                        rw [← hT] at hTl
                        by_cases h59 : 59 < T.length
                        · have HA := Lib.hid (HWI.out.trans (asciiW_long HBC.out HM.out (.inr (by rw [← hT]; exact h59))))
                          have hz1 : ((⟨T.toArray⟩ : ByteArray).size : Int) > 59 := by omega
                          clear hE hT hTl hxa hTz h59 hl2
                          generalize (⟨T.toArray⟩ : ByteArray) = TT at *
                          go_wp2_with fail
                          go_ret3
                          exact ⟨hbE, .inl ⟨14, 63, HA.out, rfl⟩⟩
                        · have HA := Lib.hid (HWI.out.trans (asciiW_ok HBC.out HM.out (by rw [← hT]; omega)))
                          rw [← hT, ← hxa] at HA
                          have hz1 : ¬ ((⟨T.toArray⟩ : ByteArray).size : Int) > 59 := by omega
                          have hz2 : (⟨T.toArray⟩ : ByteArray).size ≤ 59 := by omega
                          clear hE hT hTl hxa hTz h59 hl2
                          generalize (⟨T.toArray⟩ : ByteArray) = TT at *
                          go_wp2_with fail
                          go_ret3
                          exact ⟨hbE, .inr ⟨_, HA.out, rfl⟩⟩
                  · have ba2 : (((l.getD 2 0 : Nat) : Int) == 45) = false := by rw [beq45, decide_eq_false a2]
                    have HM := Lib.hid (marks_yes h0 a0 a1 (.inr (.inl a2)))
                    clear a0 a1 a2
                    generalize l.getD 0 0 = x0 at *
                    generalize l.getD (l.length - 1) 0 = xl at *
                    generalize l.getD 2 0 = x2 at *
                    generalize l.getD 3 0 = x3 at *
                    go_wp2_with fail
                    refine (cE.out _ HOr.out).mono ?_
                    rintro e w8 ⟨hb8, h8⟩
                    have hbE := Bt HBW.out hb8
                    clear hb8
                    rcases h8 with ⟨k, j, hE, hk, rfl⟩ | ⟨T, hE, rfl⟩
                    · have hl2 : 256 < l.length := by
                        apply Nat.lt_of_not_le
                        intro hle
                        rw [enc_nats HR.out hle] at hE
                        cases hE
                      have HA := Lib.hid (HWI.out.trans (asciiW_long HBC.out HM.out (.inl hl2)))
                      have hk1 : ((k : Int) != 0) = true := by rw [bne_iff_ne]; omega
                      clear hE hk hl2
                      go_wp2_with fail
                      go_ret3
                      exact ⟨hbE, .inl ⟨14, 63, HA.out, rfl⟩⟩
                    · have hl2 : l.length ≤ 256 := by
                        apply Nat.le_of_not_lt
                        intro hlt
                        rw [encE_long (by rw [intsN_len]; exact hlt)] at hE
                        cases hE
                      have hT : T = encN l := by
                        rw [enc_nats HR.out hl2] at hE
                        cases hE; rfl
                      have hTz : (⟨T.toArray⟩ : ByteArray).size = T.length := by show T.toArray.size = _; simp
                      have hTl := encN_len hl2 HR.out
                      have hxa := xn_app T
                      rw [← hT] at hTl
                      by_cases h59 : 59 < T.length
                      · have HA := Lib.hid (HWI.out.trans (asciiW_long HBC.out HM.out (.inr (by rw [← hT]; exact h59))))
                        have hz1 : ((⟨T.toArray⟩ : ByteArray).size : Int) > 59 := by omega
                        clear hE hT hTl hxa hTz h59 hl2
                        generalize (⟨T.toArray⟩ : ByteArray) = TT at *
                        go_wp2_with fail
                        go_ret3
                        exact ⟨hbE, .inl ⟨14, 63, HA.out, rfl⟩⟩
                      · have HA := Lib.hid (HWI.out.trans (asciiW_ok HBC.out HM.out (by rw [← hT]; omega)))
                        rw [← hT, ← hxa] at HA
                        have hz1 : ¬ ((⟨T.toArray⟩ : ByteArray).size : Int) > 59 := by omega
                        have hz2 : (⟨T.toArray⟩ : ByteArray).size ≤ 59 := by omega
                        clear hE hT hTl hxa hTz h59 hl2
                        generalize (⟨T.toArray⟩ : ByteArray) = TT at *
                        go_wp2_with fail
                        go_ret3
                        exact ⟨hbE, .inr ⟨_, HA.out, rfl⟩⟩
                · have h4I : ¬ (l.length : Int) > 3 := by omega
                  clear hc
                  have HM := Lib.hid (marks_yes h0 a0 a1 (.inl (by omega)))
                  clear a0 a1
                  generalize l.getD 0 0 = x0 at *
                  generalize l.getD (l.length - 1) 0 = xl at *
                  go_wp2_with fail
                  refine (cE.out _ HOr.out).mono ?_
                  rintro e w8 ⟨hb8, h8⟩
                  have hbE := Bt HBW.out hb8
                  clear hb8
                  rcases h8 with ⟨k, j, hE, hk, rfl⟩ | ⟨T, hE, rfl⟩
                  · have hl2 : 256 < l.length := by
                      apply Nat.lt_of_not_le
                      intro hle
                      rw [enc_nats HR.out hle] at hE
                      cases hE
                    have HA := Lib.hid (HWI.out.trans (asciiW_long HBC.out HM.out (.inl hl2)))
                    have hk1 : ((k : Int) != 0) = true := by rw [bne_iff_ne]; omega
                    clear hE hk hl2
                    go_wp2_with fail
                    go_ret3
                    exact ⟨hbE, .inl ⟨14, 63, HA.out, rfl⟩⟩
                  · have hl2 : l.length ≤ 256 := by
                      apply Nat.le_of_not_lt
                      intro hlt
                      rw [encE_long (by rw [intsN_len]; exact hlt)] at hE
                      cases hE
                    have hT : T = encN l := by
                      rw [enc_nats HR.out hl2] at hE
                      cases hE; rfl
                    have hTz : (⟨T.toArray⟩ : ByteArray).size = T.length := by show T.toArray.size = _; simp
                    have hTl := encN_len hl2 HR.out
                    have hxa := xn_app T
                    rw [← hT] at hTl
                    by_cases h59 : 59 < T.length
                    · have HA := Lib.hid (HWI.out.trans (asciiW_long HBC.out HM.out (.inr (by rw [← hT]; exact h59))))
                      have hz1 : ((⟨T.toArray⟩ : ByteArray).size : Int) > 59 := by omega
                      clear hE hT hTl hxa hTz h59 hl2
                      generalize (⟨T.toArray⟩ : ByteArray) = TT at *
                      go_wp2_with fail
                      go_ret3
                      exact ⟨hbE, .inl ⟨14, 63, HA.out, rfl⟩⟩
                    · have HA := Lib.hid (HWI.out.trans (asciiW_ok HBC.out HM.out (by rw [← hT]; omega)))
                      rw [← hT, ← hxa] at HA
                      have hz1 : ¬ ((⟨T.toArray⟩ : ByteArray).size : Int) > 59 := by omega
                      have hz2 : (⟨T.toArray⟩ : ByteArray).size ≤ 59 := by omega
                      clear hE hT hTl hxa hTz h59 hl2
                      generalize (⟨T.toArray⟩ : ByteArray) = TT at *
                      go_wp2_with fail
                      go_ret3
                      exact ⟨hbE, .inr ⟨_, HA.out, rfl⟩⟩
          · have hk : (k : Int) ≥ 0 := by omega
            have HA := Lib.hid (HWI.out.trans (asciiW_bad hbc))
            clear hwc hwd hbc hbr
            go_wp2_with fail
            go_ret3
            exact ⟨HBW.out, .inl ⟨11, k, HA.out, rfl⟩⟩
end Go.Proofs.YtibhohpamnpkcaaGreatDoor

/- The reference's Fields of chapter 02. -/
namespace Go.Proofs.YtibhohpamnpkcaaGreatDoor
open Go.RowKit

def RFieldsPost (s : ByteArray) (mark : UInt8) (most : Nat) (w : World) (e : Ending) (w' : World) : Prop :=
  Below w.heap.size w w' ∧
  ((∃ v, e = .returned (.tuple #[v, .int .i64 0, .int .i64 0]) ∧ (cutAt s mark s.size).1.length < most ∧
      w'.ownsRow w.heap.size 9 1 v ((cutAt s mark s.size).1.length + 1) (((cutAt s mark s.size).1 ++ [s.extract (cutAt s mark s.size).2 s.size]).map strV)) ∨
   (∃ i : Nat, e = .returned (.tuple #[.slice none 0 0, .int .i64 15, .int .i64 i]) ∧ i < s.size ∧ byteAt s i = mark ∧ (cutAt s mark (i + 1)).1.length = most))
theorem ext_snoc {s : ByteArray} {a k : Nat} (h : k < s.size) (ha : a ≤ k) : s.extract a k ++ ofL [byteAt s k] = s.extract a (k + 1) := by
  rw [← extract_one h]
  rw [ByteArray.extract_append_extract]
  congr 1
  · omega
  · omega
theorem ext_nil (s : ByteArray) (a : Nat) : s.extract a a = ⟨#[]⟩ := by
  apply ByteArray.ext
  apply Array.ext'
  rw [Lib.extract_data]
  simp
set_option maxHeartbeats 3200000 in
set_option maxRecDepth 100000 in
theorem ref_Fields (s : ByteArray) (mark : UInt8) (most : Nat) (w : World) (hs : s.size ≤ 16777216) (hm : 1 ≤ most) (hm2 : most ≤ 16777216) :
    Calls Tryz.prog 140 #[.string s, .int .u8 (mark.toNat : Int), .int .i64 (most : Int)] w (RFieldsPost s mark most w) := by
  obtain ⟨i0, hi, hz0, hz1, hz2⟩ := info_parts info_string
  have hmI : ¬ (most : Int) < 1 := by omega
  go_enter Tryz.func140, Tryz.ntmps140
  go_wp2_with fail
  have hcnt := cutAt_le s mark
  have HCNT := Lib.hid hcnt
  clear hcnt
  go_loopw [9, 10, 11] (fun v p i wr => ∃ k : Nat, k ≤ s.size ∧ i = .int .i64 k ∧ p = .string (s.extract (cutAt s mark k).2 k) ∧ (cutAt s mark k).1.length < most ∧
      wr.ownsRow w.heap.size 9 1 v (cutAt s mark k).1.length ((cutAt s mark k).1.map strV) ∧ Below w.heap.size w wr)
    (fun _ _ i _ => s.size - (intOf i).toNat)
  case atStart => exact ⟨0, Nat.zero_le _, rfl, by show _ = Value.string (s.extract 0 0); rw [ext_nil], by simp [cutAt]; omega, World.ownsRow_made (base := w.heap.size) w #[] 0 (Nat.le_refl _) (by unfold maxLen; omega) rfl, (Below.refl _ _).alloc (Nat.le_refl _) _⟩
  case round =>
    obtain ⟨k, hk, rfl, rfl, hlen, hown, hbr⟩ := hrel
    have hc := HCNT.out k
    have hesz : (s.extract (cutAt s mark k).2 k).size ≤ 16777216 := by rw [ByteArray.size_extract]; omega
    by_cases hlt : k < s.size
    · have hidx : s[k] = byteAt s k := by simp [byteAt, List.getD, hlt]; rfl
      have hltI : (k : Int) < (s.size : Int) := by omega
      by_cases hmk : byteAt s k = mark
      · have e1 := u8_eq hmk
        have hnx : cutAt s mark (k + 1) = ((cutAt s mark k).1 ++ [s.extract (cutAt s mark k).2 k], k + 1) := by rw [cutAt, if_pos hmk]
        have HNX := Lib.hid hnx
        have hmk' := Lib.hid hmk
        clear hnx hmk
        generalize cutAt s mark k = ck at *
        obtain ⟨l, f⟩ := ck
        simp only at hlen hown hc hesz HNX ⊢
        generalize s.extract f k = part at *
        go_wp2_with (at_builtin; refine wpList_append_own _ rfl _ _ 98 rfl w.heap.size 9 i0 (.string ByteArray.empty) 1 16 Tryz.underlying98 hi hz0 hz1 hz2 rfl (by decide) _ _ _ rfl (hown.alloc _) ⟨wr.heap.size, 0, none⟩ 1 1 [strV part] rfl rfl ?c1 ?c2 ?c3 ?c4 ?c5 ?_)
        case c1 =>
          intro j u hj
          match j, hj with
          | 0, hj => simp at hj; subst hj; simp [Addr.add, strV]
        case c2 => intro u hu; simp at hu; subst hu; rfl
        case c3 => unfold maxLen; omega
        case c4 => omega
        case c5 => have := hbr.size; simp; omega
        intro v1 w2 hown1 hg1 _
        have hbr2 : Below w.heap.size w w2 := below_app hbr hown (Nat.le_refl _) hg1
        obtain ⟨g, c2, rfl, hgB, hgl⟩ := ownsRow_form hown1 (by omega)
        clear hg1 hown hbr hidx
        by_cases hmo : l.length + 1 = most
        · have em : ((l.length : Int) + 1 == (most : Int)) = true := by rw [beq_iff_eq]; omega
          have HMO := Lib.hid hmo
          clear hmo
          go_wp2_with fail
          go_ret3
          exact ⟨hbr2, .inr ⟨k, rfl, hlt, hmk'.out, by rw [HNX.out]; simpa using HMO.out⟩⟩
        · have em : ((l.length : Int) + 1 == (most : Int)) = false := by rw [beq_eq_false_iff_ne]; omega
          go_wp2_with fail
          go_roundw
          case rel => exact ⟨k + 1, by omega, by go_num, by rw [HNX.out]; simp only [ext_nil], by rw [HNX.out]; simp; omega, by rw [HNX.out]; simpa using hown1, hbr2⟩
          case measure => simp [intOf]; omega
      · have e1 := u8_ne hmk
        have hnx : cutAt s mark (k + 1) = cutAt s mark k := by rw [cutAt, if_neg hmk]
        have hex := extract_one hlt
        have hsn := ext_snoc (a := (cutAt s mark k).2) hlt hc.2
        have HNX := Lib.hid hnx
        have HSN := Lib.hid hsn
        have hq1 : (ofL [byteAt s k]).size ≤ 1 := by rw [ofL_size]; exact Nat.le_refl _
        clear hnx hmk hsn
        generalize ofL [byteAt s k] = q at *
        go_wp2_with fail
        go_roundw
        case rel => exact ⟨k + 1, by omega, by go_num, by rw [HNX.out, ← HSN.out], by rw [HNX.out]; exact hlen, by rw [HNX.out]; exact hown, hbr⟩
        case measure => simp [intOf]; omega
    · obtain rfl : k = s.size := by omega
      have hlt2 := hown.lt
      generalize hpt : s.extract (cutAt s mark s.size).2 s.size = part at *
      have HPT := Lib.hid hpt
      clear hpt
      go_wp2_with (at_builtin; refine wpList_append_own _ rfl _ _ 98 rfl w.heap.size 9 i0 (.string ByteArray.empty) 1 16 Tryz.underlying98 hi hz0 hz1 hz2 rfl (by decide) _ _ _ rfl (hown.alloc _) ⟨wr.heap.size, 0, none⟩ 1 1 [strV part] rfl rfl ?c1 ?c2 ?c3 ?c4 ?c5 ?_)
      case c1 =>
        intro j u hj
        match j, hj with
        | 0, hj => simp at hj; subst hj; simp [Addr.add, strV]
      case c2 => intro u hu; simp at hu; subst hu; rfl
      case c3 => unfold maxLen; omega
      case c4 => omega
      case c5 => have := hbr.size; simp; omega
      intro v1 w2 hown1 hg1 _
      have hbr2 : Below w.heap.size w w2 := below_app hbr hown (Nat.le_refl _) hg1
      clear hg1 hlt2 hown hbr
      go_wp2_with fail
      go_ret3
      exact ⟨hbr2, .inl ⟨v1, rfl, hlen, by rw [HPT.out]; simpa using hown1⟩⟩
end Go.Proofs.YtibhohpamnpkcaaGreatDoor
