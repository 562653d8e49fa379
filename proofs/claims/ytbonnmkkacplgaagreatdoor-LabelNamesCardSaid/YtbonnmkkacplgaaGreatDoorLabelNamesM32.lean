/- The reference's Name of chapter 10. -/
import Derived.Test.YtbonnmkkacplgaaGreatDoorLabelNamesM29
import Derived.Test.YtbonnmkkacplgaaGreatDoorLabelNamesM30
import Derived.Test.YtbonnmkkacplgaaGreatDoorLabelNamesM17
import Derived.Test.YtbonnmkkacplgaaGreatDoorLabelNamesM31
import Derived.Test.YtbonnmkkacplgaaGreatDoorLabelNamesM19

namespace Go.Proofs.YtbonnmkkacplgaaGreatDoor
open Go.RowKit

def RNamePost (s : ByteArray) (w : World) (e : Ending) (w' : World) : Prop := Below w.heap.size w w' ∧
  ((∃ k i : Nat, NameIs s (.error (k, i)) ∧ e = .returned (.tuple #[.string ⟨#[]⟩, .int .i64 (k : Int), .int .i64 (i : Int)])) ∨ ∃ t, NameIs s (.ok t) ∧ e = .returned (.tuple #[.string t, .int .i64 0, .int .i64 0]))
theorem fields127 (t : ByteArray) (w : World) (hs : t.size ≤ 2000) : Calls Tryz.prog 23 #[.string t, .int .u8 46, .int .i64 127] w fun e w' => Below w.heap.size w w' ∧
    ((∃ a c, e = .returned (.tuple #[.slice a (fieldsB t).length c, .int .i64 0, .int .i64 0]) ∧ (cutAt t 46 t.size).1.length < 127 ∧ RowSl w' a ((fieldsB t).map strV) ∧ (fieldsB t).length ≤ c ∧ c ≤ maxLen) ∨
     (∃ i : Nat, e = .returned (.tuple #[.slice none 0 0, .int .i64 15, .int .i64 i]) ∧ i < t.size ∧ byteAt t i = 46 ∧ (cutAt t 46 (i + 1)).1.length = 127)) :=
  (ref_Fields t 46 127 w (by omega) (by decide) (by decide)).mono fun e w' ⟨hb, h⟩ => by
    refine ⟨hb, ?_⟩
    rcases h with ⟨v, he, hl, ho⟩ | h
    · left
      have hlen : (cutAt t 46 t.size).1.length + 1 = ((fieldsB t).map strV).length := by rw [List.length_map, fieldsB_len]
      obtain ⟨a, c, rfl, h1, h2, hr⟩ := row_sl (show w'.ownsRow _ _ 1 v _ ((fieldsB t).map strV) from ho) hlen
      rw [List.length_map] at he h1
      exact ⟨a, c, he, hl, hr, h1, h2⟩
    · exact .inr h
theorem join_one (xs : List ByteArray) (x : ByteArray) : joinP (xs ++ [x]) = if xs.length = 0 then x else joinP xs ++ ⟨#[46]⟩ ++ x := by
  by_cases h : xs.length = 0
  · rw [if_pos h]
    obtain rfl := List.eq_nil_of_length_eq_zero h
    exact ofL_list x
  · rw [if_neg h]
    apply ba_ext
    rw [joinP_data, List.map_append, List.map_singleton, joinA_snoc 46 _ _ (by intro e; exact h (by rw [List.map_eq_nil_iff.1 e]; rfl)), data_append, data_append, joinP_data]
    simp
theorem empty_app (x : ByteArray) : (⟨#[]⟩ : ByteArray) ++ x = x := by
  apply ba_ext
  rw [data_append]
  rfl
set_option maxHeartbeats 12800000 in
set_option maxRecDepth 100000 in
theorem ref10_Name (s : ByteArray) (w : World) (hs : s.size ≤ 2000) : Calls Tryz.prog 15 #[.string s] w (RNamePost s w) := by
  have hcz := cutP_size s
  have HEMP := Lib.hid (fun h => NameIs.empty (s := s) h)
  have HMANY := Lib.hid (fun i h h1 h2 h3 => NameIs.many (s := s) i h h1 h2 h3)
  have HBAD := Lib.hid (fun e h h1 h2 => NameIs.bad (s := s) e h h1 h2)
  have HLONG := Lib.hid (fun xs h h1 h2 h3 => NameIs.long (s := s) xs h h1 h2 h3)
  have HOKN := Lib.hid (fun xs h h1 h2 h3 => NameIs.ok (s := s) xs h h1 h2 h3)
  have cF := Lib.hid (fun W => fields127 (cutP s) W (by omega))
  have HFS := Lib.hid (fieldsB_sizes (cutP s))
  have HFL := Lib.hid (fieldsB_len (cutP s))
  by_cases h1 : 1 < s.size
  · obtain ⟨n, hn⟩ : ∃ n, s.size = n + 1 := ⟨s.size - 1, by omega⟩
    have hcl := cutP_long hn h1
    have h2 : ((s.size : Int) - 1).toNat = n := by omega
    have h3 : (1 : Int) < (s.size : Int) := by omega
    have h4 : n < s.size := by omega
    have hb := byteAt_idx h4
    clear hn
    by_cases hp : byteAt s n = 46
    · rw [if_pos hp] at hcl
      have hp2 : (((byteAt s n).toNat : Int) == 46) = true := by rw [hp]; rfl
      clear hp
      go_enter Tryz.func15, Tryz.ntmps15
      go_upto_region 3 with (fail)
      clear hcl hp2 hb h4 h3 h2 h1
      generalize cutP s = t at *
      by_cases h0 : t.size = 0
      · have e1 : ((t.size : Int) == 0) = true := by rw [h0]; rfl
        have HA := Lib.hid (HEMP.out h0)
        clear h0
        go_wp2_with fail
        go_ret3
        exact ⟨Below.refl _ _, .inl ⟨10, 0, HA.out, rfl⟩⟩
      have e1 : ((t.size : Int) == 0) = false := by rw [beq_eq_false_iff_ne]; omega
      have H0 := Lib.hid h0
      clear h0
      go_wp2_with fail
      refine (cF.out _).mono ?_
      rintro e w3 ⟨hb3, h3⟩
      have HB3 := Lib.hid hb3
      rcases h3 with ⟨pa, pc, rfl, hlen, hrow, hc1, hc2⟩ | ⟨i, rfl, hi1, hi2, hi3⟩
      · have HBAD2 := Lib.hid (fun e h2 => HBAD.out e H0.out hlen h2)
        have HLONG2 := Lib.hid (fun xs h2 h3 => HLONG.out xs H0.out hlen h2 h3)
        have HOKN2 := Lib.hid (fun xs h2 h3 => HOKN.out xs H0.out hlen h2 h3)
        have hps : (fieldsB t).length ≤ 127 := by rw [HFL.out]; omega
        have HFS2 := Lib.hid HFS.out
        clear hlen hb3 HMANY HEMP HFS
        generalize fieldsB t = ps at *
        have HROW := Lib.hid hrow
        unfold maxLen at hc2
        clear hrow HFL cF
        go_wp2_with fail
        go_loopw [8, 9, 10] (fun o a v wr => ∃ (i at_ : Nat) (xs : List ByteArray) (O : ByteArray), i ≤ ps.length ∧ v = .int .i64 i ∧ a = .int .i64 at_ ∧ at_ ≤ i * 2001 ∧ xs.length = i ∧ O = joinP xs ∧ O.size ≤ 64 * i ∧ o = .string O ∧ nameF ps 0 = aheadF xs (nameF (ps.drop i) at_) ∧ Below w3.heap.size w3 wr) (fun _ _ v _ => ps.length - (intOf v).toNat)
        case atStart => exact ⟨0, 0, [], ⟨#[]⟩, Nat.zero_le _, rfl, rfl, Nat.zero_le _, rfl, rfl, Nat.le_refl _, rfl, (ahead_nil _).symm, Below.refl _ _⟩
        case round =>
          obtain ⟨i, at_, xs, O, hil, rfl, rfl, hat, hxl, hO, hOz, rfl, hgo, hbr⟩ := hrel
          have HBR := Lib.hid hbr
          have HXL := Lib.hid hxl
          have HO := Lib.hid hO
          have hat2 : at_ ≤ 254127 := by omega
          have hOz2 : O.size ≤ 10000 := by omega
          by_cases hlt : i < ps.length
          · obtain ⟨p, hpd⟩ : ∃ p, ps.drop i = p :: ps.drop (i + 1) := ⟨ps[i], List.drop_eq_getElem_cons hlt⟩
            have hpm : p ∈ ps := List.mem_of_mem_drop (i := i) (by rw [hpd]; simp)
            have hpz := HFS2.out p hpm
            have hpi : ps[i]? = some p := by
              have := congrArg List.head? hpd
              rw [List.head?_drop] at this
              simpa using this
            obtain ⟨g, rfl, hgb, d0⟩ := (HROW.out.below hbr) i (.string p) (by rw [List.getElem?_map, hpi]; rfl)
            have hiI : (i : Int) < (ps.length : Int) := by omega
            have cA := Lib.hid (ref10_ASCII p wr (by omega))
            have HGO1 := Lib.hid (fun k j h => hgo.trans (congrArg (aheadF xs) ((congrArg (fun z => nameF z at_) hpd).trans (nameF_err (p := p) (ps := ps.drop (i + 1)) (a := at_) (k := k) (i := j) h))))
            have HGO2 := Lib.hid (fun x h => (hgo.trans (congrArg (aheadF xs) ((congrArg (fun z => nameF z at_) hpd).trans (nameF_ok (p := p) (x := x) (ps := ps.drop (i + 1)) (a := at_) h)))).trans (ahead_ahead xs [x] _))
            have HJ := Lib.hid (fun x => join_one xs x)
            have HD := Lib.hid (fun W hW => (Below.cell (p := ⟨g, i, none⟩) (hW : Below wr.heap.size wr W) hgb).trans d0)
            clear hgo hpd hpm hpi hxl hO hbr
            go_wp2_with fail
            refine cA.out.mono ?_
            rintro e w4 ⟨hb4, h4⟩
            have d4 := HD.out _ hb4
            have HB4 := Lib.hid (Bt HBR.out hb4)
            clear d0 hb4 hgb
            rcases h4 with ⟨k, j, hE, rfl⟩ | ⟨x, hE, rfl⟩
            · have hj := asciiL_place hE
              have HA := Lib.hid (HBAD2.out _ (HGO1.out k j hE))
              have hk := Lib.hid (nameF_kind [p] 0 k (0 + j) (nameF_err hE))
              have hk1 : ((k : Int) != 0) = true := by rw [bne_iff_ne]; have := hk.out; omega
              have hbE := Bt HB3.out HB4.out
              clear hE hk d4
              go_wp2_with fail
              go_ret3
              exact ⟨hbE, .inl ⟨k, at_ + j, HA.out, rfl⟩⟩
            · have hx63 := asciiL_size hE
              have HA := Lib.hid (HGO2.out x hE)
              have hjx := HJ.out x
              rw [HXL.out, ← HO.out] at hjx
              clear hE
              by_cases hi0 : i = 0
              · subst hi0
                have hO0 : O = ⟨#[]⟩ := by
                  rw [HO.out, List.eq_nil_of_length_eq_zero HXL.out]
                  rfl
                rw [if_pos rfl] at hjx
                have HJX := Lib.hid hjx
                clear hjx
                subst hO0
                go_wp2_with fail
                go_roundw
                case rel => exact ⟨0 + 1, at_ + p.size + 1, xs ++ [x], x, by omega, by go_num, by go_num, by omega, by rw [List.length_append, HXL.out]; rfl, HJX.out.symm, by omega, congrArg Value.string (empty_app x), HA.out, HB4.out⟩
                case measure => simp [intOf]; omega
              · have hiP : (i : Int) > 0 := by omega
                rw [if_neg hi0] at hjx
                have hJz : (O ++ (⟨#[46]⟩ : ByteArray) ++ x).size = O.size + 1 + x.size := by rw [ByteArray.size_append, ByteArray.size_append]; rfl
                have HJX := Lib.hid hjx
                have HJZ := Lib.hid hJz
                clear hjx hJz
                go_wp2_with fail
                go_roundw
                case rel => exact ⟨i + 1, at_ + p.size + 1, xs ++ [x], _, by omega, by go_num, by go_num, by omega, by rw [List.length_append, HXL.out]; rfl, HJX.out.symm, by rw [HJZ.out]; omega, rfl, HA.out, HB4.out⟩
                case measure => simp [intOf]; omega
          · obtain rfl : i = ps.length := by omega
            have hiI : ¬ (ps.length : Int) < (ps.length : Int) := by omega
            rw [List.drop_length] at hgo
            have hgo3 : nameF ps 0 = .ok xs := by
              rw [hgo]
              show Except.ok (xs ++ []) = _
              rw [List.append_nil]
            have HLG := Lib.hid (fun h => HLONG2.out xs hgo3 h)
            have HKN := Lib.hid (fun h => HOKN2.out xs hgo3 h)
            have hbE := Bt HB3.out HBR.out
            rw [← hO] at HLG HKN
            clear hgo hgo3 hbr hO HO
            by_cases h253 : 253 < O.size
            · have hI : (O.size : Int) > 253 := by omega
              have HA := Lib.hid (HLG.out h253)
              clear h253
              go_wp2_with fail
              go_ret3
              exact ⟨hbE, .inl ⟨14, 253, HA.out, rfl⟩⟩
            · have hI : ¬ (O.size : Int) > 253 := by omega
              have HA := Lib.hid (HKN.out h253)
              clear h253
              go_wp2_with fail
              go_ret3
              exact ⟨hbE, .inr ⟨O, HA.out, rfl⟩⟩
      · have HA := Lib.hid (HMANY.out i H0.out hi1 hi2 hi3)
        have hbE := HB3.out
        clear hi1 hi2 hi3 hb3
        go_wp2_with fail
        go_ret3
        exact ⟨hbE, .inl ⟨15, i, HA.out, rfl⟩⟩
    · rw [if_neg hp] at hcl
      rw [← hcl] at HEMP HMANY HBAD HLONG HOKN cF HFS HFL
      have hp2 : (((byteAt s n).toNat : Int) == 46) = false := u8_ne' (b := 46) hp
      clear hcl hp
      go_enter Tryz.func15, Tryz.ntmps15
      go_upto_region 3 with (fail)
      clear hp2 hb h4 h3 h2 h1
      by_cases h0 : s.size = 0
      · have e1 : ((s.size : Int) == 0) = true := by rw [h0]; rfl
        have HA := Lib.hid (HEMP.out h0)
        clear h0
        go_wp2_with fail
        go_ret3
        exact ⟨Below.refl _ _, .inl ⟨10, 0, HA.out, rfl⟩⟩
      have e1 : ((s.size : Int) == 0) = false := by rw [beq_eq_false_iff_ne]; omega
      have H0 := Lib.hid h0
      clear h0
      go_wp2_with fail
      refine (cF.out _).mono ?_
      rintro e w3 ⟨hb3, h3⟩
      have HB3 := Lib.hid hb3
      rcases h3 with ⟨pa, pc, rfl, hlen, hrow, hc1, hc2⟩ | ⟨i, rfl, hi1, hi2, hi3⟩
      · have HBAD2 := Lib.hid (fun e h2 => HBAD.out e H0.out hlen h2)
        have HLONG2 := Lib.hid (fun xs h2 h3 => HLONG.out xs H0.out hlen h2 h3)
        have HOKN2 := Lib.hid (fun xs h2 h3 => HOKN.out xs H0.out hlen h2 h3)
        have hps : (fieldsB s).length ≤ 127 := by rw [HFL.out]; omega
        have HFS2 := Lib.hid HFS.out
        clear hlen hb3 HMANY HEMP HFS
        generalize fieldsB s = ps at *
        have HROW := Lib.hid hrow
        unfold maxLen at hc2
        clear hrow HFL cF
        go_wp2_with fail
        go_loopw [8, 9, 10] (fun o a v wr => ∃ (i at_ : Nat) (xs : List ByteArray) (O : ByteArray), i ≤ ps.length ∧ v = .int .i64 i ∧ a = .int .i64 at_ ∧ at_ ≤ i * 2001 ∧ xs.length = i ∧ O = joinP xs ∧ O.size ≤ 64 * i ∧ o = .string O ∧ nameF ps 0 = aheadF xs (nameF (ps.drop i) at_) ∧ Below w3.heap.size w3 wr) (fun _ _ v _ => ps.length - (intOf v).toNat)
        case atStart => exact ⟨0, 0, [], ⟨#[]⟩, Nat.zero_le _, rfl, rfl, Nat.zero_le _, rfl, rfl, Nat.le_refl _, rfl, (ahead_nil _).symm, Below.refl _ _⟩
        case round =>
          obtain ⟨i, at_, xs, O, hil, rfl, rfl, hat, hxl, hO, hOz, rfl, hgo, hbr⟩ := hrel
          have HBR := Lib.hid hbr
          have HXL := Lib.hid hxl
          have HO := Lib.hid hO
          have hat2 : at_ ≤ 254127 := by omega
          have hOz2 : O.size ≤ 10000 := by omega
          by_cases hlt : i < ps.length
          · obtain ⟨p, hpd⟩ : ∃ p, ps.drop i = p :: ps.drop (i + 1) := ⟨ps[i], List.drop_eq_getElem_cons hlt⟩
            have hpm : p ∈ ps := List.mem_of_mem_drop (i := i) (by rw [hpd]; simp)
            have hpz := HFS2.out p hpm
            have hpi : ps[i]? = some p := by
              have := congrArg List.head? hpd
              rw [List.head?_drop] at this
              simpa using this
            obtain ⟨g, rfl, hgb, d0⟩ := (HROW.out.below hbr) i (.string p) (by rw [List.getElem?_map, hpi]; rfl)
            have hiI : (i : Int) < (ps.length : Int) := by omega
            have cA := Lib.hid (ref10_ASCII p wr (by omega))
            have HGO1 := Lib.hid (fun k j h => hgo.trans (congrArg (aheadF xs) ((congrArg (fun z => nameF z at_) hpd).trans (nameF_err (p := p) (ps := ps.drop (i + 1)) (a := at_) (k := k) (i := j) h))))
            have HGO2 := Lib.hid (fun x h => (hgo.trans (congrArg (aheadF xs) ((congrArg (fun z => nameF z at_) hpd).trans (nameF_ok (p := p) (x := x) (ps := ps.drop (i + 1)) (a := at_) h)))).trans (ahead_ahead xs [x] _))
            have HJ := Lib.hid (fun x => join_one xs x)
            have HD := Lib.hid (fun W hW => (Below.cell (p := ⟨g, i, none⟩) (hW : Below wr.heap.size wr W) hgb).trans d0)
            clear hgo hpd hpm hpi hxl hO hbr
            go_wp2_with fail
            refine cA.out.mono ?_
            rintro e w4 ⟨hb4, h4⟩
            have d4 := HD.out _ hb4
            have HB4 := Lib.hid (Bt HBR.out hb4)
            clear d0 hb4 hgb
            rcases h4 with ⟨k, j, hE, rfl⟩ | ⟨x, hE, rfl⟩
            · have hj := asciiL_place hE
              have HA := Lib.hid (HBAD2.out _ (HGO1.out k j hE))
              have hk := Lib.hid (nameF_kind [p] 0 k (0 + j) (nameF_err hE))
              have hk1 : ((k : Int) != 0) = true := by rw [bne_iff_ne]; have := hk.out; omega
              have hbE := Bt HB3.out HB4.out
              clear hE hk d4
              go_wp2_with fail
              go_ret3
              exact ⟨hbE, .inl ⟨k, at_ + j, HA.out, rfl⟩⟩
            · have hx63 := asciiL_size hE
              have HA := Lib.hid (HGO2.out x hE)
              have hjx := HJ.out x
              rw [HXL.out, ← HO.out] at hjx
              clear hE
              by_cases hi0 : i = 0
              · subst hi0
                have hO0 : O = ⟨#[]⟩ := by
                  rw [HO.out, List.eq_nil_of_length_eq_zero HXL.out]
                  rfl
                rw [if_pos rfl] at hjx
                have HJX := Lib.hid hjx
                clear hjx
                subst hO0
                go_wp2_with fail
                go_roundw
                case rel => exact ⟨0 + 1, at_ + p.size + 1, xs ++ [x], x, by omega, by go_num, by go_num, by omega, by rw [List.length_append, HXL.out]; rfl, HJX.out.symm, by omega, congrArg Value.string (empty_app x), HA.out, HB4.out⟩
                case measure => simp [intOf]; omega
              · have hiP : (i : Int) > 0 := by omega
                rw [if_neg hi0] at hjx
                have hJz : (O ++ (⟨#[46]⟩ : ByteArray) ++ x).size = O.size + 1 + x.size := by rw [ByteArray.size_append, ByteArray.size_append]; rfl
                have HJX := Lib.hid hjx
                have HJZ := Lib.hid hJz
                clear hjx hJz
                go_wp2_with fail
                go_roundw
                case rel => exact ⟨i + 1, at_ + p.size + 1, xs ++ [x], _, by omega, by go_num, by go_num, by omega, by rw [List.length_append, HXL.out]; rfl, HJX.out.symm, by rw [HJZ.out]; omega, rfl, HA.out, HB4.out⟩
                case measure => simp [intOf]; omega
          · obtain rfl : i = ps.length := by omega
            have hiI : ¬ (ps.length : Int) < (ps.length : Int) := by omega
            rw [List.drop_length] at hgo
            have hgo3 : nameF ps 0 = .ok xs := by
              rw [hgo]
              show Except.ok (xs ++ []) = _
              rw [List.append_nil]
            have HLG := Lib.hid (fun h => HLONG2.out xs hgo3 h)
            have HKN := Lib.hid (fun h => HOKN2.out xs hgo3 h)
            have hbE := Bt HB3.out HBR.out
            rw [← hO] at HLG HKN
            clear hgo hgo3 hbr hO HO
            by_cases h253 : 253 < O.size
            · have hI : (O.size : Int) > 253 := by omega
              have HA := Lib.hid (HLG.out h253)
              clear h253
              go_wp2_with fail
              go_ret3
              exact ⟨hbE, .inl ⟨14, 253, HA.out, rfl⟩⟩
            · have hI : ¬ (O.size : Int) > 253 := by omega
              have HA := Lib.hid (HKN.out h253)
              clear h253
              go_wp2_with fail
              go_ret3
              exact ⟨hbE, .inr ⟨O, HA.out, rfl⟩⟩
      · have HA := Lib.hid (HMANY.out i H0.out hi1 hi2 hi3)
        have hbE := HB3.out
        clear hi1 hi2 hi3 hb3
        go_wp2_with fail
        go_ret3
        exact ⟨hbE, .inl ⟨15, i, HA.out, rfl⟩⟩
  · have h3 : ¬ (1 : Int) < (s.size : Int) := by omega
    rw [cutP_short h1] at HEMP HMANY HBAD HLONG HOKN cF HFS HFL
    clear h1
    go_enter Tryz.func15, Tryz.ntmps15
    go_upto_region 3 with (fail)
    clear h3
    by_cases h0 : s.size = 0
    · have e1 : ((s.size : Int) == 0) = true := by rw [h0]; rfl
      have HA := Lib.hid (HEMP.out h0)
      clear h0
      go_wp2_with fail
      go_ret3
      exact ⟨Below.refl _ _, .inl ⟨10, 0, HA.out, rfl⟩⟩
    have e1 : ((s.size : Int) == 0) = false := by rw [beq_eq_false_iff_ne]; omega
    have H0 := Lib.hid h0
    clear h0
    go_wp2_with fail
    refine (cF.out _).mono ?_
    rintro e w3 ⟨hb3, h3⟩
    have HB3 := Lib.hid hb3
    rcases h3 with ⟨pa, pc, rfl, hlen, hrow, hc1, hc2⟩ | ⟨i, rfl, hi1, hi2, hi3⟩
    · have HBAD2 := Lib.hid (fun e h2 => HBAD.out e H0.out hlen h2)
      have HLONG2 := Lib.hid (fun xs h2 h3 => HLONG.out xs H0.out hlen h2 h3)
      have HOKN2 := Lib.hid (fun xs h2 h3 => HOKN.out xs H0.out hlen h2 h3)
      have hps : (fieldsB s).length ≤ 127 := by rw [HFL.out]; omega
      have HFS2 := Lib.hid HFS.out
      clear hlen hb3 HMANY HEMP HFS
      generalize fieldsB s = ps at *
      have HROW := Lib.hid hrow
      unfold maxLen at hc2
      clear hrow HFL cF
      go_wp2_with fail
      go_loopw [8, 9, 10] (fun o a v wr => ∃ (i at_ : Nat) (xs : List ByteArray) (O : ByteArray), i ≤ ps.length ∧ v = .int .i64 i ∧ a = .int .i64 at_ ∧ at_ ≤ i * 2001 ∧ xs.length = i ∧ O = joinP xs ∧ O.size ≤ 64 * i ∧ o = .string O ∧ nameF ps 0 = aheadF xs (nameF (ps.drop i) at_) ∧ Below w3.heap.size w3 wr) (fun _ _ v _ => ps.length - (intOf v).toNat)
      case atStart => exact ⟨0, 0, [], ⟨#[]⟩, Nat.zero_le _, rfl, rfl, Nat.zero_le _, rfl, rfl, Nat.le_refl _, rfl, (ahead_nil _).symm, Below.refl _ _⟩
      case round =>
        obtain ⟨i, at_, xs, O, hil, rfl, rfl, hat, hxl, hO, hOz, rfl, hgo, hbr⟩ := hrel
        have HBR := Lib.hid hbr
        have HXL := Lib.hid hxl
        have HO := Lib.hid hO
        have hat2 : at_ ≤ 254127 := by omega
        have hOz2 : O.size ≤ 10000 := by omega
        by_cases hlt : i < ps.length
        · obtain ⟨p, hpd⟩ : ∃ p, ps.drop i = p :: ps.drop (i + 1) := ⟨ps[i], List.drop_eq_getElem_cons hlt⟩
          have hpm : p ∈ ps := List.mem_of_mem_drop (i := i) (by rw [hpd]; simp)
          have hpz := HFS2.out p hpm
          have hpi : ps[i]? = some p := by
            have := congrArg List.head? hpd
            rw [List.head?_drop] at this
            simpa using this
          obtain ⟨g, rfl, hgb, d0⟩ := (HROW.out.below hbr) i (.string p) (by rw [List.getElem?_map, hpi]; rfl)
          have hiI : (i : Int) < (ps.length : Int) := by omega
          have cA := Lib.hid (ref10_ASCII p wr (by omega))
          have HGO1 := Lib.hid (fun k j h => hgo.trans (congrArg (aheadF xs) ((congrArg (fun z => nameF z at_) hpd).trans (nameF_err (p := p) (ps := ps.drop (i + 1)) (a := at_) (k := k) (i := j) h))))
          have HGO2 := Lib.hid (fun x h => (hgo.trans (congrArg (aheadF xs) ((congrArg (fun z => nameF z at_) hpd).trans (nameF_ok (p := p) (x := x) (ps := ps.drop (i + 1)) (a := at_) h)))).trans (ahead_ahead xs [x] _))
          have HJ := Lib.hid (fun x => join_one xs x)
          have HD := Lib.hid (fun W hW => (Below.cell (p := ⟨g, i, none⟩) (hW : Below wr.heap.size wr W) hgb).trans d0)
          clear hgo hpd hpm hpi hxl hO hbr
          go_wp2_with fail
          refine cA.out.mono ?_
          rintro e w4 ⟨hb4, h4⟩
          have d4 := HD.out _ hb4
          have HB4 := Lib.hid (Bt HBR.out hb4)
          clear d0 hb4 hgb
          rcases h4 with ⟨k, j, hE, rfl⟩ | ⟨x, hE, rfl⟩
          · have hj := asciiL_place hE
            have HA := Lib.hid (HBAD2.out _ (HGO1.out k j hE))
            have hk := Lib.hid (nameF_kind [p] 0 k (0 + j) (nameF_err hE))
            have hk1 : ((k : Int) != 0) = true := by rw [bne_iff_ne]; have := hk.out; omega
            have hbE := Bt HB3.out HB4.out
            clear hE hk d4
            go_wp2_with fail
            go_ret3
            exact ⟨hbE, .inl ⟨k, at_ + j, HA.out, rfl⟩⟩
          · have hx63 := asciiL_size hE
            have HA := Lib.hid (HGO2.out x hE)
            have hjx := HJ.out x
            rw [HXL.out, ← HO.out] at hjx
            clear hE
            by_cases hi0 : i = 0
            · subst hi0
              have hO0 : O = ⟨#[]⟩ := by
                rw [HO.out, List.eq_nil_of_length_eq_zero HXL.out]
                rfl
              rw [if_pos rfl] at hjx
              have HJX := Lib.hid hjx
              clear hjx
              subst hO0
              go_wp2_with fail
              go_roundw
              case rel => exact ⟨0 + 1, at_ + p.size + 1, xs ++ [x], x, by omega, by go_num, by go_num, by omega, by rw [List.length_append, HXL.out]; rfl, HJX.out.symm, by omega, congrArg Value.string (empty_app x), HA.out, HB4.out⟩
              case measure => simp [intOf]; omega
            · have hiP : (i : Int) > 0 := by omega
              rw [if_neg hi0] at hjx
              have hJz : (O ++ (⟨#[46]⟩ : ByteArray) ++ x).size = O.size + 1 + x.size := by rw [ByteArray.size_append, ByteArray.size_append]; rfl
              have HJX := Lib.hid hjx
              have HJZ := Lib.hid hJz
              clear hjx hJz
              go_wp2_with fail
              go_roundw
              case rel => exact ⟨i + 1, at_ + p.size + 1, xs ++ [x], _, by omega, by go_num, by go_num, by omega, by rw [List.length_append, HXL.out]; rfl, HJX.out.symm, by rw [HJZ.out]; omega, rfl, HA.out, HB4.out⟩
              case measure => simp [intOf]; omega
        · obtain rfl : i = ps.length := by omega
          have hiI : ¬ (ps.length : Int) < (ps.length : Int) := by omega
          rw [List.drop_length] at hgo
          have hgo3 : nameF ps 0 = .ok xs := by
            rw [hgo]
            show Except.ok (xs ++ []) = _
            rw [List.append_nil]
          have HLG := Lib.hid (fun h => HLONG2.out xs hgo3 h)
          have HKN := Lib.hid (fun h => HOKN2.out xs hgo3 h)
          have hbE := Bt HB3.out HBR.out
          rw [← hO] at HLG HKN
          clear hgo hgo3 hbr hO HO
          by_cases h253 : 253 < O.size
          · have hI : (O.size : Int) > 253 := by omega
            have HA := Lib.hid (HLG.out h253)
            clear h253
            go_wp2_with fail
            go_ret3
            exact ⟨hbE, .inl ⟨14, 253, HA.out, rfl⟩⟩
          · have hI : ¬ (O.size : Int) > 253 := by omega
            have HA := Lib.hid (HKN.out h253)
            clear h253
            go_wp2_with fail
            go_ret3
            exact ⟨hbE, .inr ⟨O, HA.out, rfl⟩⟩
    · have HA := Lib.hid (HMANY.out i H0.out hi1 hi2 hi3)
      have hbE := HB3.out
      clear hi1 hi2 hi3 hb3
      go_wp2_with fail
      go_ret3
      exact ⟨hbE, .inl ⟨15, i, HA.out, rfl⟩⟩
end Go.Proofs.YtbonnmkkacplgaaGreatDoor

/- Chapter 9's told: is an error this one, at this place? -/
namespace Go.Proofs.YtbonnmkkacplgaaGreatDoor
open Go.RowKit

theorem told10 (v : Value) (k i : Nat) (w : World) (hg : Handle w) (hv : IsErr w v k i) : Calls Tryz.prog 12 #[v, .int .i64 (k : Int), .int .i64 (i : Int)] w fun e w' => e = .returned (.bool true) ∧ Below w.heap.size w w' := by
  have cK := Lib.hid (fault_Kind v k i w hg hv)
  have ek : ((k : Int) == (k : Int)) = true := beq_self_eq_true _
  have ei : ((i : Int) == (i : Int)) = true := beq_self_eq_true _
  rcases hv with ⟨rfl, rfl⟩ | ⟨hk, n, hv⟩
  · go_enter Tryz.func12, Tryz.ntmps12
    go_wp2_with fail
    refine cK.out.mono ?_
    rintro e w1 ⟨rfl, hb1⟩
    go_wp2_with fail
    go_ret
    exact ⟨rfl, hb1⟩
  · have cA := Lib.hid (fun W hg hb => fault_At v k i W hg (.inr ⟨hk, n, FaultIs.below (w := w) hv hb⟩) hk)
    obtain ⟨p, rfl⟩ := hv.ne_nil
    clear hv hk
    go_enter Tryz.func12, Tryz.ntmps12
    go_wp2_with fail
    refine cK.out.mono ?_
    rintro e w1 ⟨rfl, hb1⟩
    have hg1 := hg.below hb1
    go_wp2_with fail
    refine (cA.out _ hg1 hb1).mono ?_
    rintro e w2 ⟨rfl, hb2⟩
    have hb12 := Bt hb1 hb2
    go_wp2_with fail
    go_ret
    exact ⟨rfl, hb12⟩
end Go.Proofs.YtbonnmkkacplgaaGreatDoor
