/- The reference's Name of chapter 10. -/
import Derived.Test.YtibhohpamnpkcaaGreatDoorRouteOrderM17
import Derived.Test.YtibhohpamnpkcaaGreatDoorRouteOrderM10
import Derived.Test.YtibhohpamnpkcaaGreatDoorRouteOrderM9
import Derived.Test.YtibhohpamnpkcaaGreatDoorRouteOrderM2
import Derived.Test.YtibhohpamnpkcaaGreatDoorRouteOrderM4
import Derived.Test.YtibhohpamnpkcaaGreatDoorRouteOrderM1
import Derived.Deep.DeepCutAuto

namespace Go.Proofs.YtibhohpamnpkcaaGreatDoor
open Go.RowKit

def RNamePost (s : ByteArray) (w : World) (e : Ending) (w' : World) : Prop := Below w.heap.size w w' ∧
  ((∃ k i : Nat, NameIs s (.error (k, i)) ∧ e = .returned (.tuple #[.string ⟨#[]⟩, .int .i64 (k : Int), .int .i64 (i : Int)])) ∨ ∃ t, NameIs s (.ok t) ∧ e = .returned (.tuple #[.string t, .int .i64 0, .int .i64 0]))
theorem fields127 (t : ByteArray) (w : World) (hs : t.size ≤ 2000) : Calls Tryz.prog 140 #[.string t, .int .u8 46, .int .i64 127] w fun e w' => Below w.heap.size w w' ∧
    ((∃ a c, e = .returned (.tuple #[.slice a (fieldsB t).length c, .int .i64 0, .int .i64 0]) ∧ (cutAt t 46 t.size).1.length < 127 ∧ RowSl w' a ((fieldsB t).map strV) ∧ (fieldsB t).length ≤ c ∧ c ≤ maxLen) ∨
     (∃ i : Nat, e = .returned (.tuple #[.slice none 0 0, .int .i64 15, .int .i64 i]) ∧ i < t.size ∧ byteAt t i = 46 ∧ (cutAt t 46 (i + 1)).1.length = 127)) :=
  (ref_Fields t 46 127 w (by omega) (by decide) (by decide)).mono fun e w' ⟨hb, h⟩ => by
    refine ⟨hb, ?_⟩
    rcases h with ⟨v, he, hl, ho⟩ | h
    · left
      have hlen : (cutAt t 46 t.size).1.length + 1 = ((fieldsB t).map strV).length := by rw [List.length_map, fieldsB_len]
      obtain ⟨a, c, rfl, h1, h2, hr⟩ := row_sl (show w'.ownsRow _ _ 1 v _ ((fieldsB t).map strV) from ho) hlen
      rw [List.length_map] at he h1
      exact ⟨a, c, he, hl, hr, h1, h2⟩
    · exact .inr h
theorem join_one (xs : List ByteArray) (x : ByteArray) : joinP (xs ++ [x]) = if xs.length = 0 then x else joinP xs ++ ⟨#[46]⟩ ++ x := by
  by_cases h : xs.length = 0
  · rw [if_pos h]
    obtain rfl := List.eq_nil_of_length_eq_zero h
    exact ofL_list x
  · rw [if_neg h]
    apply ba_ext
    rw [joinP_data, List.map_append, List.map_singleton, joinA_snoc 46 _ _ (by intro e; exact h (by rw [List.map_eq_nil_iff.1 e]; rfl)), data_append, data_append, joinP_data]
    simp
theorem empty_app (x : ByteArray) : (⟨#[]⟩ : ByteArray) ++ x = x := by
  apply ba_ext
  rw [data_append]
  rfl
set_option maxHeartbeats 12800000 in
set_option maxRecDepth 100000 in
theorem ref10_Name (s : ByteArray) (w : World) (hs : s.size ≤ 2000) : Calls Tryz.prog 108 #[.string s] w (RNamePost s w) := by
  have hcz := cutP_size s
  have HEMP := Lib.hid (fun h => NameIs.empty (s := s) h)
  have HMANY := Lib.hid (fun i h h1 h2 h3 => NameIs.many (s := s) i h h1 h2 h3)
  have HBAD := Lib.hid (fun e h h1 h2 => NameIs.bad (s := s) e h h1 h2)
  have HLONG := Lib.hid (fun xs h h1 h2 h3 => NameIs.long (s := s) xs h h1 h2 h3)
  have HOKN := Lib.hid (fun xs h h1 h2 h3 => NameIs.ok (s := s) xs h h1 h2 h3)
  have cF := Lib.hid (fun W => fields127 (cutP s) W (by omega))
  have HFS := Lib.hid (fieldsB_sizes (cutP s))
  have HFL := Lib.hid (fieldsB_len (cutP s))
  by_cases h1 : 1 < s.size
  · obtain ⟨n, hn⟩ : ∃ n, s.size = n + 1 := ⟨s.size - 1, by omega⟩
    have hcl := cutP_long hn h1
    have h2 : ((s.size : Int) - 1).toNat = n := by omega
    have h3 : (1 : Int) < (s.size : Int) := by omega
    have h4 : n < s.size := by omega
    have hb := byteAt_idx h4
    clear hn
    by_cases hp : byteAt s n = 46
    · rw [if_pos hp] at hcl
      have hp2 : (((byteAt s n).toNat : Int) == 46) = true := by rw [hp]; rfl
      clear hp
      go_enter Tryz.func108, Tryz.ntmps108
      go_upto_region 3 with (fail)
      clear hcl hp2 hb h4 h3 h2 h1
      generalize cutP s = t at *
      by_cases h0 : t.size = 0
      · have e1 : ((t.size : Int) == 0) = true := by rw [h0]; rfl
        have HA := Lib.hid (HEMP.out h0)
        clear h0
        go_wp2_with fail
        go_ret3
        exact ⟨Below.refl _ _, .inl ⟨10, 0, HA.out, rfl⟩⟩
      have e1 : ((t.size : Int) == 0) = false := by rw [beq_eq_false_iff_ne]; omega
      have H0 := Lib.hid h0
      clear h0
      go_wp2_with fail
      refine (cF.out _).mono ?_
      rintro e w3 ⟨hb3, h3⟩
      have HB3 := Lib.hid hb3
      rcases h3 with ⟨pa, pc, rfl, hlen, hrow, hc1, hc2⟩ | ⟨i, rfl, hi1, hi2, hi3⟩
      · have HBAD2 := Lib.hid (fun e h2 => HBAD.out e H0.out hlen h2)
        have HLONG2 := Lib.hid (fun xs h2 h3 => HLONG.out xs H0.out hlen h2 h3)
        have HOKN2 := Lib.hid (fun xs h2 h3 => HOKN.out xs H0.out hlen h2 h3)
        have hps : (fieldsB t).length ≤ 127 := by rw [HFL.out]; omega
        have HFS2 := Lib.hid HFS.out
        clear hlen hb3 HMANY HEMP HFS
        generalize fieldsB t = ps at *
        have HROW := Lib.hid hrow
        unfold maxLen at hc2
        clear hrow HFL cF
        go_wp2_with fail
        go_loopw [8, 9, 10] (fun o a v wr => ∃ (i at_ : Nat) (xs : List ByteArray) (O : ByteArray), i ≤ ps.length ∧ v = .int .i64 i ∧ a = .int .i64 at_ ∧ at_ ≤ i * 2001 ∧ xs.length = i ∧ O = joinP xs ∧ O.size ≤ 64 * i ∧ o = .string O ∧ nameF ps 0 = aheadF xs (nameF (ps.drop i) at_) ∧ Below w3.heap.size w3 wr) (fun _ _ v _ => ps.length - (intOf v).toNat)
        case atStart => exact ⟨0, 0, [], ⟨#[]⟩, Nat.zero_le _, rfl, rfl, Nat.zero_le _, rfl, rfl, Nat.le_refl _, rfl, (ahead_nil _).symm, Below.refl _ _⟩
        case round =>
          obtain ⟨i, at_, xs, O, hil, rfl, rfl, hat, hxl, hO, hOz, rfl, hgo, hbr⟩ := hrel
          have HBR := Lib.hid hbr
          have HXL := Lib.hid hxl
          have HO := Lib.hid hO
          have hat2 : at_ ≤ 254127 := by omega
          have hOz2 : O.size ≤ 10000 := by omega
          by_cases hlt : i < ps.length
          · obtain ⟨p, hpd⟩ : ∃ p, ps.drop i = p :: ps.drop (i + 1) := ⟨ps[i], List.drop_eq_getElem_cons hlt⟩
            have hpm : p ∈ ps := List.mem_of_mem_drop (i := i) (by rw [hpd]; simp)
            have hpz := HFS2.out p hpm
            have hpi : ps[i]? = some p := by
              have := congrArg List.head? hpd
              rw [List.head?_drop] at this
              simpa using this
            obtain ⟨g, rfl, hgb, d0⟩ := (HROW.out.below hbr) i (.string p) (by rw [List.getElem?_map, hpi]; rfl)
            have hiI : (i : Int) < (ps.length : Int) := by omega
            have cA := Lib.hid (ref10_ASCII p wr (by omega))
            have HGO1 := Lib.hid (fun k j h => hgo.trans (congrArg (aheadF xs) ((congrArg (fun z => nameF z at_) hpd).trans (nameF_err (p := p) (ps := ps.drop (i + 1)) (a := at_) (k := k) (i := j) h))))
            have HGO2 := Lib.hid (fun x h => (hgo.trans (congrArg (aheadF xs) ((congrArg (fun z => nameF z at_) hpd).trans (nameF_ok (p := p) (x := x) (ps := ps.drop (i + 1)) (a := at_) h)))).trans (ahead_ahead xs [x] _))
            have HJ := Lib.hid (fun x => join_one xs x)
            have HD := Lib.hid (fun W hW => (Below.cell (p := ⟨g, i, none⟩) (hW : Below wr.heap.size wr W) hgb).trans d0)
            clear hgo hpd hpm hpi hxl hO hbr
            go_wp2_with fail
            refine cA.out.mono ?_
            rintro e w4 ⟨hb4, h4⟩
            have d4 := HD.out _ hb4
            have HB4 := Lib.hid (Bt HBR.out hb4)
            clear d0 hb4 hgb
            rcases h4 with ⟨k, j, hE, rfl⟩ | ⟨x, hE, rfl⟩
            · have hj := asciiL_place hE
              have HA := Lib.hid (HBAD2.out _ (HGO1.out k j hE))
              have hk := Lib.hid (nameF_kind [p] 0 k (0 + j) (nameF_err hE))
              have hk1 : ((k : Int) != 0) = true := by rw [bne_iff_ne]; have := hk.out; omega
              have hbE := Bt HB3.out HB4.out
              clear hE hk d4
              go_wp2_with fail
              go_ret3
              exact ⟨hbE, .inl ⟨k, at_ + j, HA.out, rfl⟩⟩
            · have hx63 := asciiL_size hE
              have HA := Lib.hid (HGO2.out x hE)
              have hjx := HJ.out x
              rw [HXL.out, ← HO.out] at hjx
              clear hE
              by_cases hi0 : i = 0
              · subst hi0
                have hO0 : O = ⟨#[]⟩ := by
                  rw [HO.out, List.eq_nil_of_length_eq_zero HXL.out]
                  rfl
                rw [if_pos rfl] at hjx
                have HJX := Lib.hid hjx
                clear hjx
                subst hO0
                go_wp2_with fail
                go_roundw
                case rel => exact ⟨0 + 1, at_ + p.size + 1, xs ++ [x], x, by omega, by go_num, by go_num, by omega, by rw [List.length_append, HXL.out]; rfl, HJX.out.symm, by omega, congrArg Value.string (empty_app x), HA.out, HB4.out⟩
                case measure => simp [intOf]; omega
              · have hiP : (i : Int) > 0 := by omega
                rw [if_neg hi0] at hjx
                have hJz : (O ++ (⟨#[46]⟩ : ByteArray) ++ x).size = O.size + 1 + x.size := by rw [ByteArray.size_append, ByteArray.size_append]; rfl
                have HJX := Lib.hid hjx
                have HJZ := Lib.hid hJz
                clear hjx hJz
                go_wp2_with fail
                go_roundw
                case rel => exact ⟨i + 1, at_ + p.size + 1, xs ++ [x], _, by omega, by go_num, by go_num, by omega, by rw [List.length_append, HXL.out]; rfl, HJX.out.symm, by rw [HJZ.out]; omega, rfl, HA.out, HB4.out⟩
                case measure => simp [intOf]; omega
          · obtain rfl : i = ps.length := by omega
            have hiI : ¬ (ps.length : Int) < (ps.length : Int) := by omega
            rw [List.drop_length] at hgo
            have hgo3 : nameF ps 0 = .ok xs := by
              rw [hgo]
              show Except.ok (xs ++ []) = _
              rw [List.append_nil]
            have HLG := Lib.hid (fun h => HLONG2.out xs hgo3 h)
            have HKN := Lib.hid (fun h => HOKN2.out xs hgo3 h)
            have hbE := Bt HB3.out HBR.out
            rw [← hO] at HLG HKN
            clear hgo hgo3 hbr hO HO
            by_cases h253 : 253 < O.size
            · have hI : (O.size : Int) > 253 := by omega
              have HA := Lib.hid (HLG.out h253)
              clear h253
              go_wp2_with fail
              go_ret3
              exact ⟨hbE, .inl ⟨14, 253, HA.out, rfl⟩⟩
            · have hI : ¬ (O.size : Int) > 253 := by omega
              have HA := Lib.hid (HKN.out h253)
              clear h253
              go_wp2_with fail
              go_ret3
              exact ⟨hbE, .inr ⟨O, HA.out, rfl⟩⟩
      · have HA := Lib.hid (HMANY.out i H0.out hi1 hi2 hi3)
        have hbE := HB3.out
        clear hi1 hi2 hi3 hb3
        go_wp2_with fail
        go_ret3
        exact ⟨hbE, .inl ⟨15, i, HA.out, rfl⟩⟩
    · rw [if_neg hp] at hcl
      rw [← hcl] at HEMP HMANY HBAD HLONG HOKN cF HFS HFL
      have hp2 : (((byteAt s n).toNat : Int) == 46) = false := u8_ne' (b := 46) hp
      clear hcl hp
      go_enter Tryz.func108, Tryz.ntmps108
      go_upto_region 3 with (fail)
      clear hp2 hb h4 h3 h2 h1
      by_cases h0 : s.size = 0
      · have e1 : ((s.size : Int) == 0) = true := by rw [h0]; rfl
        have HA := Lib.hid (HEMP.out h0)
        clear h0
        go_wp2_with fail
        go_ret3
        exact ⟨Below.refl _ _, .inl ⟨10, 0, HA.out, rfl⟩⟩
      have e1 : ((s.size : Int) == 0) = false := by rw [beq_eq_false_iff_ne]; omega
      have H0 := Lib.hid h0
      clear h0
      go_wp2_with fail
      refine (cF.out _).mono ?_
      rintro e w3 ⟨hb3, h3⟩
      have HB3 := Lib.hid hb3
      rcases h3 with ⟨pa, pc, rfl, hlen, hrow, hc1, hc2⟩ | ⟨i, rfl, hi1, hi2, hi3⟩
      · have HBAD2 := Lib.hid (fun e h2 => HBAD.out e H0.out hlen h2)
        have HLONG2 := Lib.hid (fun xs h2 h3 => HLONG.out xs H0.out hlen h2 h3)
        have HOKN2 := Lib.hid (fun xs h2 h3 => HOKN.out xs H0.out hlen h2 h3)
        have hps : (fieldsB s).length ≤ 127 := by rw [HFL.out]; omega
        have HFS2 := Lib.hid HFS.out
        clear hlen hb3 HMANY HEMP HFS
        generalize fieldsB s = ps at *
        have HROW := Lib.hid hrow
        unfold maxLen at hc2
        clear hrow HFL cF
        go_wp2_with fail
        go_loopw [8, 9, 10] (fun o a v wr => ∃ (i at_ : Nat) (xs : List ByteArray) (O : ByteArray), i ≤ ps.length ∧ v = .int .i64 i ∧ a = .int .i64 at_ ∧ at_ ≤ i * 2001 ∧ xs.length = i ∧ O = joinP xs ∧ O.size ≤ 64 * i ∧ o = .string O ∧ nameF ps 0 = aheadF xs (nameF (ps.drop i) at_) ∧ Below w3.heap.size w3 wr) (fun _ _ v _ => ps.length - (intOf v).toNat)
        case atStart => exact ⟨0, 0, [], ⟨#[]⟩, Nat.zero_le _, rfl, rfl, Nat.zero_le _, rfl, rfl, Nat.le_refl _, rfl, (ahead_nil _).symm, Below.refl _ _⟩
        case round =>
          obtain ⟨i, at_, xs, O, hil, rfl, rfl, hat, hxl, hO, hOz, rfl, hgo, hbr⟩ := hrel
          have HBR := Lib.hid hbr
          have HXL := Lib.hid hxl
          have HO := Lib.hid hO
          have hat2 : at_ ≤ 254127 := by omega
          have hOz2 : O.size ≤ 10000 := by omega
          by_cases hlt : i < ps.length
          · obtain ⟨p, hpd⟩ : ∃ p, ps.drop i = p :: ps.drop (i + 1) := ⟨ps[i], List.drop_eq_getElem_cons hlt⟩
            have hpm : p ∈ ps := List.mem_of_mem_drop (i := i) (by rw [hpd]; simp)
            have hpz := HFS2.out p hpm
            have hpi : ps[i]? = some p := by
              have := congrArg List.head? hpd
              rw [List.head?_drop] at this
              simpa using this
            obtain ⟨g, rfl, hgb, d0⟩ := (HROW.out.below hbr) i (.string p) (by rw [List.getElem?_map, hpi]; rfl)
            have hiI : (i : Int) < (ps.length : Int) := by omega
            have cA := Lib.hid (ref10_ASCII p wr (by omega))
            have HGO1 := Lib.hid (fun k j h => hgo.trans (congrArg (aheadF xs) ((congrArg (fun z => nameF z at_) hpd).trans (nameF_err (p := p) (ps := ps.drop (i + 1)) (a := at_) (k := k) (i := j) h))))
            have HGO2 := Lib.hid (fun x h => (hgo.trans (congrArg (aheadF xs) ((congrArg (fun z => nameF z at_) hpd).trans (nameF_ok (p := p) (x := x) (ps := ps.drop (i + 1)) (a := at_) h)))).trans (ahead_ahead xs [x] _))
            have HJ := Lib.hid (fun x => join_one xs x)
            have HD := Lib.hid (fun W hW => (Below.cell (p := ⟨g, i, none⟩) (hW : Below wr.heap.size wr W) hgb).trans d0)
            clear hgo hpd hpm hpi hxl hO hbr
            go_wp2_with fail
            refine cA.out.mono ?_
            rintro e w4 ⟨hb4, h4⟩
            have d4 := HD.out _ hb4
            have HB4 := Lib.hid (Bt HBR.out hb4)
            clear d0 hb4 hgb
            rcases h4 with ⟨k, j, hE, rfl⟩ | ⟨x, hE, rfl⟩
            · have hj := asciiL_place hE
              have HA := Lib.hid (HBAD2.out _ (HGO1.out k j hE))
              have hk := Lib.hid (nameF_kind [p] 0 k (0 + j) (nameF_err hE))
              have hk1 : ((k : Int) != 0) = true := by rw [bne_iff_ne]; have := hk.out; omega
              have hbE := Bt HB3.out HB4.out
              clear hE hk d4
              go_wp2_with fail
              go_ret3
              exact ⟨hbE, .inl ⟨k, at_ + j, HA.out, rfl⟩⟩
            · have hx63 := asciiL_size hE
              have HA := Lib.hid (HGO2.out x hE)
              have hjx := HJ.out x
              rw [HXL.out, ← HO.out] at hjx
              clear hE
              by_cases hi0 : i = 0
              · subst hi0
                have hO0 : O = ⟨#[]⟩ := by
                  rw [HO.out, List.eq_nil_of_length_eq_zero HXL.out]
                  rfl
                rw [if_pos rfl] at hjx
                have HJX := Lib.hid hjx
                clear hjx
                subst hO0
                go_wp2_with fail
                go_roundw
                case rel => exact ⟨0 + 1, at_ + p.size + 1, xs ++ [x], x, by omega, by go_num, by go_num, by omega, by rw [List.length_append, HXL.out]; rfl, HJX.out.symm, by omega, congrArg Value.string (empty_app x), HA.out, HB4.out⟩
                case measure => simp [intOf]; omega
              · have hiP : (i : Int) > 0 := by omega
                rw [if_neg hi0] at hjx
                have hJz : (O ++ (⟨#[46]⟩ : ByteArray) ++ x).size = O.size + 1 + x.size := by rw [ByteArray.size_append, ByteArray.size_append]; rfl
                have HJX := Lib.hid hjx
                have HJZ := Lib.hid hJz
                clear hjx hJz
                go_wp2_with fail
                go_roundw
                case rel => exact ⟨i + 1, at_ + p.size + 1, xs ++ [x], _, by omega, by go_num, by go_num, by omega, by rw [List.length_append, HXL.out]; rfl, HJX.out.symm, by rw [HJZ.out]; omega, rfl, HA.out, HB4.out⟩
                case measure => simp [intOf]; omega
          · obtain rfl : i = ps.length := by omega
            have hiI : ¬ (ps.length : Int) < (ps.length : Int) := by omega
            rw [List.drop_length] at hgo
            have hgo3 : nameF ps 0 = .ok xs := by
              rw [hgo]
              show Except.ok (xs ++ []) = _
              rw [List.append_nil]
            have HLG := Lib.hid (fun h => HLONG2.out xs hgo3 h)
            have HKN := Lib.hid (fun h => HOKN2.out xs hgo3 h)
            have hbE := Bt HB3.out HBR.out
            rw [← hO] at HLG HKN
            clear hgo hgo3 hbr hO HO
            by_cases h253 : 253 < O.size
            · have hI : (O.size : Int) > 253 := by omega
              have HA := Lib.hid (HLG.out h253)
              clear h253
              go_wp2_with fail
              go_ret3
              exact ⟨hbE, .inl ⟨14, 253, HA.out, rfl⟩⟩
            · have hI : ¬ (O.size : Int) > 253 := by omega
              have HA := Lib.hid (HKN.out h253)
              clear h253
              go_wp2_with fail
              go_ret3
              exact ⟨hbE, .inr ⟨O, HA.out, rfl⟩⟩
      · have HA := Lib.hid (HMANY.out i H0.out hi1 hi2 hi3)
        have hbE := HB3.out
        clear hi1 hi2 hi3 hb3
        go_wp2_with fail
        go_ret3
        exact ⟨hbE, .inl ⟨15, i, HA.out, rfl⟩⟩
  · have h3 : ¬ (1 : Int) < (s.size : Int) := by omega
    rw [cutP_short h1] at HEMP HMANY HBAD HLONG HOKN cF HFS HFL
    clear h1
    go_enter Tryz.func108, Tryz.ntmps108
    go_upto_region 3 with (fail)
    clear h3
    by_cases h0 : s.size = 0
    · have e1 : ((s.size : Int) == 0) = true := by rw [h0]; rfl
      have HA := Lib.hid (HEMP.out h0)
      clear h0
      go_wp2_with fail
      go_ret3
      exact ⟨Below.refl _ _, .inl ⟨10, 0, HA.out, rfl⟩⟩
    have e1 : ((s.size : Int) == 0) = false := by rw [beq_eq_false_iff_ne]; omega
    have H0 := Lib.hid h0
    clear h0
    go_wp2_with fail
    refine (cF.out _).mono ?_
    rintro e w3 ⟨hb3, h3⟩
    have HB3 := Lib.hid hb3
    rcases h3 with ⟨pa, pc, rfl, hlen, hrow, hc1, hc2⟩ | ⟨i, rfl, hi1, hi2, hi3⟩
    · have HBAD2 := Lib.hid (fun e h2 => HBAD.out e H0.out hlen h2)
      have HLONG2 := Lib.hid (fun xs h2 h3 => HLONG.out xs H0.out hlen h2 h3)
      have HOKN2 := Lib.hid (fun xs h2 h3 => HOKN.out xs H0.out hlen h2 h3)
      have hps : (fieldsB s).length ≤ 127 := by rw [HFL.out]; omega
      have HFS2 := Lib.hid HFS.out
      clear hlen hb3 HMANY HEMP HFS
      generalize fieldsB s = ps at *
      have HROW := Lib.hid hrow
      unfold maxLen at hc2
      clear hrow HFL cF
      go_wp2_with fail
      go_loopw [8, 9, 10] (fun o a v wr => ∃ (i at_ : Nat) (xs : List ByteArray) (O : ByteArray), i ≤ ps.length ∧ v = .int .i64 i ∧ a = .int .i64 at_ ∧ at_ ≤ i * 2001 ∧ xs.length = i ∧ O = joinP xs ∧ O.size ≤ 64 * i ∧ o = .string O ∧ nameF ps 0 = aheadF xs (nameF (ps.drop i) at_) ∧ Below w3.heap.size w3 wr) (fun _ _ v _ => ps.length - (intOf v).toNat)
      case atStart => exact ⟨0, 0, [], ⟨#[]⟩, Nat.zero_le _, rfl, rfl, Nat.zero_le _, rfl, rfl, Nat.le_refl _, rfl, (ahead_nil _).symm, Below.refl _ _⟩
      case round =>
        obtain ⟨i, at_, xs, O, hil, rfl, rfl, hat, hxl, hO, hOz, rfl, hgo, hbr⟩ := hrel
        have HBR := Lib.hid hbr
        have HXL := Lib.hid hxl
        have HO := Lib.hid hO
        have hat2 : at_ ≤ 254127 := by omega
        have hOz2 : O.size ≤ 10000 := by omega
        by_cases hlt : i < ps.length
        · obtain ⟨p, hpd⟩ : ∃ p, ps.drop i = p :: ps.drop (i + 1) := ⟨ps[i], List.drop_eq_getElem_cons hlt⟩
          have hpm : p ∈ ps := List.mem_of_mem_drop (i := i) (by rw [hpd]; simp)
          have hpz := HFS2.out p hpm
          have hpi : ps[i]? = some p := by
            have := congrArg List.head? hpd
            rw [List.head?_drop] at this
            simpa using this
          obtain ⟨g, rfl, hgb, d0⟩ := (HROW.out.below hbr) i (.string p) (by rw [List.getElem?_map, hpi]; rfl)
          have hiI : (i : Int) < (ps.length : Int) := by omega
          have cA := Lib.hid (ref10_ASCII p wr (by omega))
          have HGO1 := Lib.hid (fun k j h => hgo.trans (congrArg (aheadF xs) ((congrArg (fun z => nameF z at_) hpd).trans (nameF_err (p := p) (ps := ps.drop (i + 1)) (a := at_) (k := k) (i := j) h))))
          have HGO2 := Lib.hid (fun x h => (hgo.trans (congrArg (aheadF xs) ((congrArg (fun z => nameF z at_) hpd).trans (nameF_ok (p := p) (x := x) (ps := ps.drop (i + 1)) (a := at_) h)))).trans (ahead_ahead xs [x] _))
          have HJ := Lib.hid (fun x => join_one xs x)
          have HD := Lib.hid (fun W hW => (Below.cell (p := ⟨g, i, none⟩) (hW : Below wr.heap.size wr W) hgb).trans d0)
          clear hgo hpd hpm hpi hxl hO hbr
          go_wp2_with fail
          refine cA.out.mono ?_
          rintro e w4 ⟨hb4, h4⟩
          have d4 := HD.out _ hb4
          have HB4 := Lib.hid (Bt HBR.out hb4)
          clear d0 hb4 hgb
          rcases h4 with ⟨k, j, hE, rfl⟩ | ⟨x, hE, rfl⟩
          · have hj := asciiL_place hE
            have HA := Lib.hid (HBAD2.out _ (HGO1.out k j hE))
            have hk := Lib.hid (nameF_kind [p] 0 k (0 + j) (nameF_err hE))
            have hk1 : ((k : Int) != 0) = true := by rw [bne_iff_ne]; have := hk.out; omega
            have hbE := Bt HB3.out HB4.out
            clear hE hk d4
            go_wp2_with fail
            go_ret3
            exact ⟨hbE, .inl ⟨k, at_ + j, HA.out, rfl⟩⟩
          · have hx63 := asciiL_size hE
            have HA := Lib.hid (HGO2.out x hE)
            have hjx := HJ.out x
            rw [HXL.out, ← HO.out] at hjx
            clear hE
            by_cases hi0 : i = 0
            · subst hi0
              have hO0 : O = ⟨#[]⟩ := by
                rw [HO.out, List.eq_nil_of_length_eq_zero HXL.out]
                rfl
              rw [if_pos rfl] at hjx
              have HJX := Lib.hid hjx
              clear hjx
              subst hO0
              go_wp2_with fail
              go_roundw
              case rel => exact ⟨0 + 1, at_ + p.size + 1, xs ++ [x], x, by omega, by go_num, by go_num, by omega, by rw [List.length_append, HXL.out]; rfl, HJX.out.symm, by omega, congrArg Value.string (empty_app x), HA.out, HB4.out⟩
              case measure => simp [intOf]; omega
            · have hiP : (i : Int) > 0 := by omega
              rw [if_neg hi0] at hjx
              have hJz : (O ++ (⟨#[46]⟩ : ByteArray) ++ x).size = O.size + 1 + x.size := by rw [ByteArray.size_append, ByteArray.size_append]; rfl
              have HJX := Lib.hid hjx
              have HJZ := Lib.hid hJz
              clear hjx hJz
              go_wp2_with fail
              go_roundw
              case rel => exact ⟨i + 1, at_ + p.size + 1, xs ++ [x], _, by omega, by go_num, by go_num, by omega, by rw [List.length_append, HXL.out]; rfl, HJX.out.symm, by rw [HJZ.out]; omega, rfl, HA.out, HB4.out⟩
              case measure => simp [intOf]; omega
        · obtain rfl : i = ps.length := by omega
          have hiI : ¬ (ps.length : Int) < (ps.length : Int) := by omega
          rw [List.drop_length] at hgo
          have hgo3 : nameF ps 0 = .ok xs := by
            rw [hgo]
            show Except.ok (xs ++ []) = _
            rw [List.append_nil]
          have HLG := Lib.hid (fun h => HLONG2.out xs hgo3 h)
          have HKN := Lib.hid (fun h => HOKN2.out xs hgo3 h)
          have hbE := Bt HB3.out HBR.out
          rw [← hO] at HLG HKN
          clear hgo hgo3 hbr hO HO
          by_cases h253 : 253 < O.size
          · have hI : (O.size : Int) > 253 := by omega
            have HA := Lib.hid (HLG.out h253)
            clear h253
            go_wp2_with fail
            go_ret3
            exact ⟨hbE, .inl ⟨14, 253, HA.out, rfl⟩⟩
          · have hI : ¬ (O.size : Int) > 253 := by omega
            have HA := Lib.hid (HKN.out h253)
            clear h253
            go_wp2_with fail
            go_ret3
            exact ⟨hbE, .inr ⟨O, HA.out, rfl⟩⟩
    · have HA := Lib.hid (HMANY.out i H0.out hi1 hi2 hi3)
      have hbE := HB3.out
      clear hi1 hi2 hi3 hb3
      go_wp2_with fail
      go_ret3
      exact ⟨hbE, .inl ⟨15, i, HA.out, rfl⟩⟩
end Go.Proofs.YtibhohpamnpkcaaGreatDoor

/- Plain: the parts of an address, their digits, their numbers. -/
namespace Go.Proofs.YtibhohpamnpkcaaGreatDoor

def hexQ : ByteArray := ⟨#[48, 49, 50, 51, 52, 53, 54, 55, 56, 57, 97, 98, 99, 100, 101, 102, 65, 66, 67, 68, 69, 70]⟩
def octQ : ByteArray := ⟨#[48, 49, 50, 51, 52, 53, 54, 55]⟩
def decQ : ByteArray := ⟨#[48, 49, 50, 51, 52, 53, 54, 55, 56, 57]⟩
def hexedB (s : ByteArray) : Bool := decide (1 < s.size) && (decide (byteAt s 0 = 48) && (decide ((byteAt s 1).toNat = 120) || decide ((byteAt s 1).toNat = 88)))
def octB (s : ByteArray) : Bool := decide (1 < s.size) && decide (byteAt s 0 = 48)
/-- A part's base, how many bytes stand ahead of its digits, among which they are. -/
def formQ (s : ByteArray) : Nat × Nat × ByteArray := if hexedB s = true then (16, 2, hexQ) else if octB s = true then (8, 1, octQ) else (10, 0, decQ)
def digsQ (s : ByteArray) : ByteArray := s.extract (formQ s).2.1 s.size
theorem formQ_hex {s : ByteArray} (h : hexedB s = true) : formQ s = (16, 2, hexQ) := by unfold formQ; rw [if_pos h]
theorem formQ_oct {s : ByteArray} (h : hexedB s = false) (h2 : octB s = true) : formQ s = (8, 1, octQ) := by unfold formQ; rw [if_neg (by simp [h]), if_pos h2]
theorem formQ_dec {s : ByteArray} (h : hexedB s = false) (h2 : octB s = false) : formQ s = (10, 0, decQ) := by unfold formQ; rw [if_neg (by simp [h]), if_neg (by simp [h2])]
theorem hexedB_size {s : ByteArray} (h : hexedB s = true) : 2 ≤ s.size := by unfold hexedB at h; simp at h; omega
theorem octB_size {s : ByteArray} (h : octB s = true) : 2 ≤ s.size := by unfold octB at h; simp at h; omega
/-- The three forms. -/
theorem formQ_three (s : ByteArray) : (hexedB s = true ∧ formQ s = (16, 2, hexQ) ∧ 2 ≤ s.size) ∨ (hexedB s = false ∧ octB s = true ∧ formQ s = (8, 1, octQ) ∧ 2 ≤ s.size) ∨ (hexedB s = false ∧ octB s = false ∧ formQ s = (10, 0, decQ)) := by
  cases h : hexedB s with
  | true => exact .inl ⟨rfl, formQ_hex h, hexedB_size h⟩
  | false =>
    cases h2 : octB s with
    | true => exact .inr (.inl ⟨rfl, rfl, formQ_oct h h2, octB_size h2⟩)
    | false => exact .inr (.inr ⟨rfl, rfl, formQ_dec h h2⟩)
theorem digsQ_size (s : ByteArray) : (formQ s).2.1 + (digsQ s).size = s.size ∨ s.size = 0 := by
  unfold digsQ
  rw [ByteArray.size_extract]
  rcases formQ_three s with ⟨_, h, h2⟩ | ⟨_, _, h, h2⟩ | ⟨_, _, h⟩ <;> rw [h] <;> simp only <;> omega
theorem byte_ext (s : ByteArray) (a k : Nat) (h : a + k < s.size) : byteAt (s.extract a s.size) k = byteAt s (a + k) := by
  unfold byteAt
  rw [Lib.extract_data]
  simp only [List.getD, List.getElem?_take, List.getElem?_drop]
  rw [if_pos (by omega)]
/-- The first byte of a text that is not among others. -/
def firstOut (d m : ByteArray) : Option Nat := (List.range d.size).find? fun i => !hasB m (byteAt d i)
theorem firstOut_some {d m : ByteArray} {i : Nat} (hi : i < d.size) (h : ∀ j, j < i → hasB m (byteAt d j) = true) (hb : hasB m (byteAt d i) = false) : firstOut d m = some i := by
  unfold firstOut
  rw [List.find?_range_eq_some]
  exact ⟨by simp [hb], List.mem_range.2 hi, fun j hj => by simp [h j hj]⟩
theorem firstOut_none {d m : ByteArray} (h : ∀ j, j < d.size → hasB m (byteAt d j) = true) : firstOut d m = none := by
  unfold firstOut
  rw [List.find?_range_eq_none]
  exact fun j hj => by simp [h j hj]
theorem firstOut_all {d m : ByteArray} (h : firstOut d m = none) : ∀ j, j < d.size → hasB m (byteAt d j) = true := by
  unfold firstOut at h
  rw [List.find?_range_eq_none] at h
  exact fun j hj => by simpa using h j hj
/-- What is wrong with a part: the error's kind, its place in it. -/
def badQ (s : ByteArray) : Option (Nat × Nat) := if s.size = 0 then some (10, 0) else match firstOut (digsQ s) (formQ s).2.2 with
  | some k => some (11, (formQ s).2.1 + k)
  | none => none
def among_val (m : ByteArray) (b : Nat) : Bool := (List.range 256).all fun n => !hasB m (UInt8.ofNat n) || decide (valN (UInt8.ofNat n).toNat < b)
theorem among_lt {m : ByteArray} {b : Nat} (h : among_val m b = true) {c : UInt8} (hc : hasB m c = true) : valN c.toNat < b := by
  unfold among_val at h
  rw [List.all_eq_true] at h
  have := h c.toNat (List.mem_range.2 c.toNat_lt)
  simp [hc] at this
  exact this
theorem val_hex : among_val hexQ 16 = true := by decide +kernel
theorem val_oct : among_val octQ 8 = true := by decide +kernel
theorem val_dec : among_val decQ 10 = true := by decide +kernel
theorem badQ_digits {s : ByteArray} (h : badQ s = none) : ∀ j, j < (digsQ s).size → valN (byteAt (digsQ s) j).toNat < (formQ s).1 := by
  unfold badQ at h
  by_cases h0 : s.size = 0
  · rw [if_pos h0] at h; cases h
  · rw [if_neg h0] at h
    have hn : firstOut (digsQ s) (formQ s).2.2 = none := by
      cases hx : firstOut (digsQ s) (formQ s).2.2 with
      | none => rfl
      | some k => rw [hx] at h; cases h
    intro j hj
    have := firstOut_all hn j hj
    rcases formQ_three s with ⟨_, h, _⟩ | ⟨_, _, h, _⟩ | ⟨_, _, h⟩
    · rw [h] at this ⊢; exact among_lt val_hex this
    · rw [h] at this ⊢; exact among_lt val_oct this
    · rw [h] at this ⊢; exact among_lt val_dec this
/-- A part's number. -/
def numQ (s : ByteArray) : Nat := numTo (formQ s).1 (digsQ s) (digsQ s).size
def p40 : Nat := 1099511627776
theorem base_two (s : ByteArray) : 2 ≤ (formQ s).1 ∧ (formQ s).1 ≤ 16 := by
  rcases formQ_three s with ⟨_, h, _⟩ | ⟨_, _, h, _⟩ | ⟨_, _, h⟩ <;> rw [h] <;> simp
/-- One digit's number. -/
theorem num_one (c : UInt8) (h : valN c.toNat < 16) : numRes (ofL [c]) 16 15 = (valN c.toNat, 0, 0) := by
  have hs : (ofL [c]).size = 1 := by rw [ofL_size]; rfl
  have hb : byteAt (ofL [c]) 0 = c := rfl
  have hn : numTo 16 (ofL [c]) (ofL [c]).size = valN c.toNat := by rw [hs, numTo, numTo, hb]; omega
  unfold numRes
  rw [if_neg (by omega), firstBad_none (fun j hj => by have : j = 0 := by omega
                                                       subst this
                                                       rw [hb]; exact h), hn, if_neg (by omega)]
/-- The most that a part may be, and its weight: the i-th of n. -/
def limQ (i n : Nat) : Nat := if i + 1 = n then 256 ^ (5 - n) - 1 else 255
def wtQ (i n : Nat) : Nat := if i + 1 = n then 1 else 256 ^ (3 - i)
/-- All parts' check, from a place on. -/
def checkQ : List ByteArray → Nat → Option (Nat × Nat)
  | [], _ => none
  | p :: ps, at_ => match badQ p with
    | some (k, j) => some (k, at_ + j)
    | none => checkQ ps (at_ + (p.size + 1))
/-- The parts' sum, of n parts, from the i-th on: or the place of the first that is too great. -/
def sumQ (n : Nat) : List ByteArray → Nat → Nat → Nat → Nat × Option Nat
  | [], _, _, t => (t, none)
  | p :: ps, i, at_, t => if limQ i n < numQ p then (0, some at_) else sumQ n ps (i + 1) (at_ + (p.size + 1)) (t + numQ p * wtQ i n)
end Go.Proofs.YtibhohpamnpkcaaGreatDoor

/- Plain: an address's text as a whole: its parts, the first thing that is wrong, its number. -/
namespace Go.Proofs.YtibhohpamnpkcaaGreatDoor

/-- All parts between marks. -/
def fieldsQ (t : ByteArray) (mark : UInt8) : List ByteArray := (cutAt t mark t.size).1 ++ [t.extract (cutAt t mark t.size).2 t.size]
/-- The mark at which there are too many parts. -/
def overB (t : ByteArray) (mark : UInt8) (most : Nat) : Option Nat := (List.range t.size).find? fun i => decide (byteAt t i = mark ∧ (cutAt t mark (i + 1)).1.length = most)
theorem over_some {t : ByteArray} {mark : UInt8} {most i : Nat} (hi : i < t.size) (hb : byteAt t i = mark) (h : (cutAt t mark (i + 1)).1.length = most) : overB t mark most = some i := by
  unfold overB
  rw [List.find?_range_eq_some]
  refine ⟨by simp [hb, h], List.mem_range.2 hi, fun j hj => ?_⟩
  have h1 : (cutAt t mark (i + 1)).1.length = (cutAt t mark i).1.length + 1 := by rw [cutAt, if_pos hb]; simp
  have h2 := cutAt_mono t mark (j := j + 1) (k := i) hj
  simp only [Bool.not_eq_true', decide_eq_false_iff_not]
  omega
theorem over_none {t : ByteArray} {mark : UInt8} {most : Nat} (h : (cutAt t mark t.size).1.length < most) : overB t mark most = none := by
  unfold overB
  rw [List.find?_range_eq_none]
  intro i hi
  have h2 := cutAt_mono t mark (j := i + 1) (k := t.size) hi
  simp only [Bool.not_eq_true', decide_eq_false_iff_not]
  omega
theorem cut_sizes (t : ByteArray) (mark : UInt8) (k : Nat) : ∀ p ∈ (cutAt t mark k).1, p.size ≤ t.size := by
  induction k with
  | zero => intro p hp; simp [cutAt] at hp
  | succ k ih =>
    intro p hp
    rw [cutAt] at hp
    split at hp
    · rcases List.mem_append.1 hp with h | h
      · exact ih p h
      · simp at h; subst h; rw [ByteArray.size_extract]; omega
    · exact ih p hp
theorem fields_sizes (t : ByteArray) (mark : UInt8) : ∀ p ∈ fieldsQ t mark, p.size ≤ t.size := by
  intro p hp
  rcases List.mem_append.1 hp with h | h
  · exact cut_sizes t mark _ p h
  · simp at h; subst h; rw [ByteArray.size_extract]; omega
theorem fields_len (t : ByteArray) (mark : UInt8) : (fieldsQ t mark).length = (cutAt t mark t.size).1.length + 1 := by unfold fieldsQ; simp
/-- What an address's text gives: the number, the error's kind (0: none), its place. -/
def parseQ (s : ByteArray) : Nat × Nat × Nat := match overB (cutP s) 46 4 with
  | some i => (0, 15, i)
  | none => match checkQ (fieldsQ (cutP s) 46) 0 with
    | some (k, a) => (0, k, a)
    | none => match sumQ (fieldsQ (cutP s) 46).length (fieldsQ (cutP s) 46) 0 0 0 with
      | (t, none) => (t, 0, 0)
      | (_, some p) => (0, 16, p)
theorem parse_over {s : ByteArray} {i : Nat} (h : overB (cutP s) 46 4 = some i) : parseQ s = (0, 15, i) := by unfold parseQ; rw [h]
theorem parse_bad {s : ByteArray} {k a : Nat} (h : overB (cutP s) 46 4 = none) (h2 : checkQ (fieldsQ (cutP s) 46) 0 = some (k, a)) : parseQ s = (0, k, a) := by unfold parseQ; rw [h, h2]
theorem parse_range {s : ByteArray} {t p : Nat} (h : overB (cutP s) 46 4 = none) (h2 : checkQ (fieldsQ (cutP s) 46) 0 = none) (h3 : sumQ (fieldsQ (cutP s) 46).length (fieldsQ (cutP s) 46) 0 0 0 = (t, some p)) : parseQ s = (0, 16, p) := by unfold parseQ; rw [h, h2, h3]
theorem parse_good {s : ByteArray} {t : Nat} (h : overB (cutP s) 46 4 = none) (h2 : checkQ (fieldsQ (cutP s) 46) 0 = none) (h3 : sumQ (fieldsQ (cutP s) 46).length (fieldsQ (cutP s) 46) 0 0 0 = (t, none)) : parseQ s = (t, 0, 0) := by unfold parseQ; rw [h, h2, h3]
theorem check_none {ps : List ByteArray} : ∀ a : Nat, checkQ ps a = none → ∀ p ∈ ps, badQ p = none := by
  induction ps with
  | nil => intro a _ p hp; cases hp
  | cons x ps ih =>
    intro a h p hp
    unfold checkQ at h
    cases hx : badQ x with
    | some k => obtain ⟨k, j⟩ := k; rw [hx] at h; cases h
    | none =>
      rw [hx] at h
      rcases List.mem_cons.1 hp with rfl | hp
      · exact hx
      · exact ih _ h p hp
theorem check_yes {p : ByteArray} {ps : List ByteArray} {a : Nat} (h : badQ p = none) : checkQ (p :: ps) a = checkQ ps (a + (p.size + 1)) := by rw [checkQ, h]
theorem check_no {p : ByteArray} {ps : List ByteArray} {a k j : Nat} (h : badQ p = some (k, j)) : checkQ (p :: ps) a = some (k, a + j) := by rw [checkQ, h]
theorem sum_no {n i a t : Nat} {p : ByteArray} {ps : List ByteArray} (h : limQ i n < numQ p) : sumQ n (p :: ps) i a t = (0, some a) := by rw [sumQ, if_pos h]
theorem sum_yes {n i a t : Nat} {p : ByteArray} {ps : List ByteArray} (h : ¬ limQ i n < numQ p) : sumQ n (p :: ps) i a t = sumQ n ps (i + 1) (a + (p.size + 1)) (t + numQ p * wtQ i n) := by rw [sumQ, if_neg h]
theorem lim_wt {i n x : Nat} (hi : i < n) (hn : n ≤ 4) (h : ¬ limQ i n < x) : x * wtQ i n ≤ 4294967295 ∧ limQ i n ≤ 4294967295 := by
  have h' : x ≤ limQ i n := by omega
  have hcases : ∀ n : Fin 5, ∀ i : Fin 4, i.1 < n.1 → limQ i.1 n.1 * wtQ i.1 n.1 ≤ 4294967295 ∧ limQ i.1 n.1 ≤ 4294967295 := by decide
  have := hcases ⟨n, by omega⟩ ⟨i, by omega⟩ hi
  exact ⟨Nat.le_trans (Nat.mul_le_mul_right _ h') this.1, this.2⟩
theorem lim_p40 {i n : Nat} (hi : i < n) (hn : n ≤ 4) : limQ i n < 4294967296 := by
  have hcases : ∀ n : Fin 5, ∀ i : Fin 4, i.1 < n.1 → limQ i.1 n.1 < 4294967296 := by decide
  exact hcases ⟨n, by omega⟩ ⟨i, by omega⟩ hi
theorem drop_cons {α : Type} {l : List α} {i : Nat} {d : α} (h : l[i]? = some d) : l.drop i = d :: l.drop (i + 1) := by
  obtain ⟨hi, rfl⟩ := List.getElem?_eq_some_iff.1 h
  exact List.drop_eq_getElem_cons hi
end Go.Proofs.YtibhohpamnpkcaaGreatDoor

/- quad.hexed, part, number, checked. -/
namespace Go.Proofs.YtibhohpamnpkcaaGreatDoor
open Go.RowKit

theorem or_x (n : Nat) (h : n < 256) : ((bits .or .u8 (n : Int) 32 == 120) : Bool) = (decide (n = 120) || decide (n = 88)) := by
  have : ∀ n : Fin 256, ((bits .or .u8 (n.1 : Int) 32 == 120) : Bool) = (decide (n.1 = 120) || decide (n.1 = 88)) := by decide +kernel
  exact this ⟨n, h⟩
theorem digsQ_of {s : ByteArray} {b k : Nat} {m : ByteArray} (h : formQ s = (b, k, m)) : digsQ s = s.extract k s.size := by unfold digsQ; rw [h]
theorem whole (s : ByteArray) : s.extract 0 s.size = s := by
  apply ByteArray.ext
  apply Array.ext'
  rw [Lib.extract_data]
  have hl : s.data.toList.length = s.size := rfl
  rw [List.drop_zero, Nat.sub_zero, ← hl, List.take_length]
theorem ret_part {a b c d : ByteArray} {x y : Int} (h1 : a = b) (h2 : x = y) (h3 : c = d) : Ending.returned (.tuple #[.string a, .int .i64 x, .string c]) = .returned (.tuple #[.string b, .int .i64 y, .string d]) := by rw [h1, h2, h3]
end Go.Proofs.YtibhohpamnpkcaaGreatDoor

/- quad.number, quad.checked. -/
namespace Go.Proofs.YtibhohpamnpkcaaGreatDoor
open Go.RowKit

theorem ret_num {a b : Int} {c d : Bool} (h1 : a = b) (h2 : c = d) : Ending.returned (.tuple #[.int .u64 a, .bool c]) = .returned (.tuple #[.int .u64 b, .bool d]) := by rw [h1, h2]
/-- A part's number, and whether it is below 2^40. -/
def NumQPost (s : ByteArray) (w : World) (e : Ending) (w' : World) : Prop := Below w.heap.size w w' ∧ e = .returned (.tuple #[.int .u64 ((if numQ s < p40 then numQ s else 0 : Nat) : Int), .bool (decide (numQ s < p40))])
theorem NumQPost.good {s : ByteArray} {w w' : World} {m : Nat} (hb : Below w.heap.size w w') (h : numQ s = m) (hm : m < 1099511627776) : NumQPost s w (.returned (.tuple #[.int .u64 (m : Int), .bool true])) w' := by
  refine ⟨hb, ?_⟩
  have hm' : m < p40 := hm
  rw [h, if_pos hm', decide_eq_true hm']
theorem NumQPost.over {s : ByteArray} {w w' : World} {m : Nat} (hb : Below w.heap.size w w') (h : m ≤ numQ s) (hm : ¬ m < 1099511627776) : NumQPost s w (.returned (.tuple #[.int .u64 0, .bool false])) w' := by
  refine ⟨hb, ?_⟩
  have : ¬ numQ s < p40 := by unfold p40; omega
  rw [if_neg this, decide_eq_false this]
  rfl
theorem numTo_succ (b : Nat) (d : ByteArray) (i : Nat) : numTo b d (i + 1) = numTo b d i * b + valN (byteAt d i).toNat := rfl
def CheckedPost (s : ByteArray) (at_ : Nat) (w : World) (e : Ending) (w' : World) : Prop := Below w.heap.size w w' ∧ ((badQ s = none ∧ e = .returned .nilIface) ∨ (∃ k j, badQ s = some (k, j) ∧ (k = 10 ∨ k = 11) ∧ ∃ v, e = .returned v ∧ IsFault w' v (k : Int) ((at_ + j : Nat) : Int)))
theorem badQ_out {s : ByteArray} {i : Nat} (h0 : s.size ≠ 0) (h : firstOut (digsQ s) (formQ s).2.2 = some i) : badQ s = some (11, (formQ s).2.1 + i) := by unfold badQ; rw [if_neg h0, h]
theorem badQ_no {s : ByteArray} (h0 : s.size ≠ 0) (h : firstOut (digsQ s) (formQ s).2.2 = none) : badQ s = none := by unfold badQ; rw [if_neg h0, h]
theorem badQ_empty {s : ByteArray} (h0 : s.size = 0) : badQ s = some (10, 0) := by unfold badQ; rw [if_pos h0]
theorem skip_le (s : ByteArray) : (formQ s).2.1 ≤ 2 := by
  rcases formQ_three s with ⟨_, h, _⟩ | ⟨_, _, h, _⟩ | ⟨_, _, h⟩ <;> rw [h] <;> simp
end Go.Proofs.YtibhohpamnpkcaaGreatDoor
