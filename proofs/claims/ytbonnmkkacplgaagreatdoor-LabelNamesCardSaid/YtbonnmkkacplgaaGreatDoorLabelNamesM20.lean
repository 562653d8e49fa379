/- label.Name. -/
import Derived.Test.YtbonnmkkacplgaaGreatDoorLabelNamesM18
import Derived.Test.YtbonnmkkacplgaaGreatDoorLabelNamesM19

namespace Go.Proofs.YtbonnmkkacplgaaGreatDoor
open Go.RowKit

/-- What a name of labels is told as. -/
inductive NameIs (s : ByteArray) : Except (Nat × Nat) ByteArray → Prop
  | empty (h : (cutP s).size = 0) : NameIs s (.error (10, 0))
  | many (i : Nat) (h : (cutP s).size ≠ 0) (h1 : i < (cutP s).size) (h2 : byteAt (cutP s) i = 46) (h3 : (cutAt (cutP s) 46 (i + 1)).1.length = 127) : NameIs s (.error (15, i))
  | bad (e : Nat × Nat) (h : (cutP s).size ≠ 0) (h1 : (cutAt (cutP s) 46 (cutP s).size).1.length < 127) (h2 : nameF (fieldsB (cutP s)) 0 = .error e) : NameIs s (.error e)
  | long (xs : List ByteArray) (h : (cutP s).size ≠ 0) (h1 : (cutAt (cutP s) 46 (cutP s).size).1.length < 127) (h2 : nameF (fieldsB (cutP s)) 0 = .ok xs) (h3 : 253 < (joinP xs).size) : NameIs s (.error (14, 253))
  | ok (xs : List ByteArray) (h : (cutP s).size ≠ 0) (h1 : (cutAt (cutP s) 46 (cutP s).size).1.length < 127) (h2 : nameF (fieldsB (cutP s)) 0 = .ok xs) (h3 : ¬ 253 < (joinP xs).size) : NameIs s (.ok (joinP xs))
def NamePost (s : ByteArray) (w : World) (e : Ending) (w' : World) : Prop := Below w.heap.size w w' ∧
  ((∃ k i : Nat, ∃ v, NameIs s (.error (k, i)) ∧ k ≠ 0 ∧ e = .returned (.tuple #[.string ⟨#[]⟩, v]) ∧ IsFault w' v k i) ∨ ∃ t, NameIs s (.ok t) ∧ e = .returned (.tuple #[.string t, .nilIface]))
theorem nameF_kind : ∀ (ps : List ByteArray) (a k i : Nat), nameF ps a = .error (k, i) → k ≠ 0 := by
  intro ps
  induction ps with
  | nil => intro a k i h; cases h
  | cons p ps ih =>
    intro a k i h
    cases hp : asciiL p with
    | error e =>
      obtain ⟨k', i'⟩ := e
      rw [nameF_err hp] at h
      cases h
      cases hc : (chrs p).2 with
      | some j => rw [asciiL_utf hc] at hp; cases hp; decide
      | none =>
        cases hw : wideL (chrs p).1 with
        | true =>
          rw [asciiL_wide hc hw] at hp
          generalize lowC (lowerS p) = l at *
          cases hb : badC l 0 with
          | some j => rw [asciiW_bad hb] at hp; cases hp; decide
          | none =>
            cases hm : marksL l with
            | false => rw [asciiW_marks hb hm] at hp; cases hp; decide
            | true =>
              by_cases hl : 256 < l.length ∨ 59 < (encN l).length
              · rw [asciiW_long hb hm hl] at hp; cases hp; decide
              · rw [asciiW_ok hb hm hl] at hp; cases hp
        | false =>
          by_cases h0 : (rightL (lowerS p)).1 = 0
          · rw [asciiL_low hc hw h0] at hp; cases hp
          · rw [asciiL_err hc hw h0] at hp
            injection hp with hp
            rw [hp] at h0
            exact h0
    | ok x =>
      rw [nameF_ok hp] at h
      cases hn : nameF ps (a + p.size + 1) with
      | error e => rw [hn] at h; cases h; exact ih _ _ _ hn
      | ok xs => rw [hn] at h; cases h
theorem OwnS.set {w : World} {base g n c : Nat} {l : List ByteArray} (h : OwnS w base (.slice (some ⟨g, 0, none⟩) n c) l) (i : Nat) (hi : i < l.length) (x : ByteArray) : OwnS (w.setCell ⟨g, i, none⟩ (.string x)) base (.slice (some ⟨g, 0, none⟩) n c) (l.set i x) := by
  obtain ⟨h0, h⟩ := h
  rcases h with ⟨e, _⟩ | ⟨g', cap, cur, e, hg, hh, h1, h2, h3, h4⟩
  · cases e
  · cases e
    refine ⟨by simp, .inr ⟨g, c, cur.setIfInBounds i (.string x), by simp, hg, ?_, by simpa using h1, h2, by simpa using h3, ?_⟩⟩
    · simp [World.setCell, Array.getElem?_modify, hh]
    · have e4 : (cur.setIfInBounds i (.string x)).toList = cur.toList.set i (.string x) := by simp
      rw [e4, List.length_set, Nat.mul_one] at *
      rw [List.take_set, h4, List.map_set]
      rfl
theorem OwnS.cellS {w : World} {base : Nat} {a : Option Addr} {n c : Nat} {l : List ByteArray} (h : OwnS w base (.slice a n c) l) {i : Nat} (hi : i < l.length) : ∃ g, a = some ⟨g, 0, none⟩ ∧ base ≤ g ∧ g < w.heap.size ∧ l.length ≤ c ∧ c ≤ maxLen ∧ w.cell? ⟨g, i, none⟩ = some (.string (l.getD i ByteArray.empty)) ∧ w.frozen? ⟨g, i, none⟩ = false := by
  rcases h.2 with ⟨e, h0⟩ | ⟨g, cap, cur, e, hg, hh, h1, h2, _⟩
  · omega
  · cases e
    have := World.ownsRow.cellAt h i (by omega)
    refine ⟨g, rfl, hg, lt_of_block hh, h1, h2, ?_, by simp [World.frozen?, hh]⟩
    rw [this]
    simp [hi, strV, List.getD]
theorem set_mid2 (xs ps : List ByteArray) (i : Nat) (p x : ByteArray) (h : xs.length = i) (hp : ps.drop i = p :: ps.drop (i + 1)) : (xs ++ ps.drop i).set i x = (xs ++ [x]) ++ ps.drop (i + 1) := by
  rw [hp, List.set_append_right _ _ (by omega), h, Nat.sub_self, List.set_cons_zero]
  simp
theorem joinP_len : ∀ xs : List ByteArray, (∀ x ∈ xs, x.size ≤ 63) → (joinA 46 (xs.map (·.data.toList))).length ≤ 64 * xs.length := by
  intro xs h
  have := joinA_len 46 63 (xs.map (·.data.toList)) (fun p hp => by
    obtain ⟨x, hx, rfl⟩ := List.mem_map.1 hp
    exact h x hx)
  simpa using this
theorem OwnS.fault {w : World} {base g n c : Nat} {l : List ByteArray} (h : OwnS w base (.slice (some ⟨g, 0, none⟩) n c) l) {v : Value} {k i : Int} {m : Value} (hv : FaultIs w v k i m) (j : Nat) (u : Value) : FaultIs (w.setCell ⟨g, j, none⟩ u) v k i m := by
  obtain ⟨b, rfl, hb⟩ := hv
  refine ⟨b, rfl, ?_⟩
  rcases h.2 with ⟨e, _⟩ | ⟨g', cap, cur, e, hg, hh, _⟩
  · cases e
  · cases e
    have hne : b ≠ g := by
      rintro rfl
      rw [hb] at hh
      injection hh with hh
      injection hh with _ h2
      revert h2
      decide
    exact (Below.heap_setCell w ⟨g, j, none⟩ u b hne).trans hb
theorem map_data (xs : List ByteArray) : (xs.map (·.data.toList)).map ofL = xs := by
  rw [List.map_map]
  conv => rhs; rw [← List.map_id xs]
  exact List.map_congr_left fun x _ => ofL_list x
theorem joinP_size (xs : List ByteArray) (n : Nat) (hn : xs.length = n) (h : n ≤ 127) (hx : ∀ x ∈ xs, x.size ≤ 63) : (joinP xs).size ≤ 100000 := by
  have hjl := joinP_len xs hx
  unfold joinP
  rw [show ∀ l, (ofL l).size = l.length from fun l => by show l.toArray.size = _; simp]
  omega
theorem name_join (xs : List ByteArray) (n : Nat) (pa : Option Addr) (pc base : Nat) (W : World) (hn : xs.length = n) (h : n ≤ 127) (hx : ∀ x ∈ xs, x.size ≤ 63) (ho : OwnS W base (.slice pa n pc) xs) :
    Calls Tryz.prog 48 #[.slice pa n pc, .string ⟨#[46]⟩] W fun e w' => e = .returned (.string (joinP xs)) ∧ Below W.heap.size W w' := by
  subst hn
  obtain ⟨a, c, hvv, h5, h6, hrow⟩ := ho.sl
  injection hvv with e1 e2 e3
  subst e1 e3
  have hmx := map_data xs
  have hjl := joinP_len xs hx
  have hl : (xs.map (·.data.toList)).length = xs.length := List.length_map _
  exact str_Join (xs.map (·.data.toList)) 46 pa xs.length pc W (by rw [hmx]) (by rw [hmx]; exact hrow) h5 (by omega) (by omega)
set_option maxHeartbeats 12800000 in
set_option maxRecDepth 100000 in
theorem label_Name (s : ByteArray) (w : World) (hg : Handle w) (hS : SpanLaid w) (hU : Utf8Laid w) (hs : s.size ≤ 2000) : Calls Tryz.prog 14 #[.string s] w (NamePost s w) := by
  have hcz := cutP_size s
  have HEMP := Lib.hid (fun h => NameIs.empty (s := s) h)
  have HMANY := Lib.hid (fun i h h1 h2 h3 => NameIs.many (s := s) i h h1 h2 h3)
  have HBAD := Lib.hid (fun e h h1 h2 => NameIs.bad (s := s) e h h1 h2)
  have HLONG := Lib.hid (fun xs h h1 h2 h3 => NameIs.long (s := s) xs h h1 h2 h3)
  have HOKN := Lib.hid (fun xs h h1 h2 h3 => NameIs.ok (s := s) xs h h1 h2 h3)
  have cT : 1 < s.size → ∀ W, Calls Tryz.prog 45 #[.string s, .string ⟨#[46]⟩] W fun e w' => e = .returned (.string (cutP s)) ∧ W = w' := fun h W => by
    have := str_trim s (s.size - 1) (by omega) (by omega) W
    rw [cutP_long (by omega) h] at this
    exact this
  have hshort := fun h => cutP_short (s := s) h
  have CT := Lib.hid cT
  have HSH := Lib.hid hshort
  have cF := Lib.hid (show ∀ W, Calls Tryz.prog 46 #[.string (cutP s), .int .u8 46, .int .i64 127] W (FieldsPost (cutP s) 46 127 W) from fun W => fold_Fields (cutP s) 46 127 W (by omega) (by omega) (by omega))
  have hfs := fieldsB_sizes (cutP s)
  have hfl := fieldsB_len (cutP s)
  have hfd : fieldsB (cutP s) = (cutAt (cutP s) 46 (cutP s).size).1 ++ [(cutP s).extract (cutAt (cutP s) 46 (cutP s).size).2 (cutP s).size] := rfl
  have HFS := Lib.hid hfs
  have HFL := Lib.hid hfl
  have HFD := Lib.hid hfd
  clear cT hshort hfs hfl hfd
  by_cases h1 : 1 < s.size
  all_goals
    first
      | (have h1I : (s.size : Int) > 1 := by omega
         have cTT := Lib.hid (CT.out h1)
         generalize cutP s = t at *
         clear CT HSH h1
         go_enter Tryz.func14, Tryz.ntmps14
         go_wp2_with fail
         refine (cTT.out _).mono ?_
         rintro e w2 ⟨rfl, hw2⟩
         obtain rfl := hw2)
      | (have h1I : ¬ (s.size : Int) > 1 := by omega
         rw [HSH.out h1] at cF HFS HFL HFD HEMP HMANY HBAD HLONG HOKN hcz
         clear CT HSH h1
         generalize hts : s = t at *
         clear hts
         go_enter Tryz.func14, Tryz.ntmps14)
    by_cases h0 : t.size = 0
    · have e0 := isEmpty_yes h0
      have e1 : (t.toList == []) = true := by rw [List.isEmpty_iff] at e0; rw [e0]; rfl
      have HA := Lib.hid (HEMP.out h0)
      clear h0
      go_wp2_with fail
      refine (api_Fail' 10 0 _).mono ?_
      rintro e w3 ⟨v, rfl, hv, hb⟩
      go_wp2_with fail
      go_ret2
      exact ⟨hb, .inl ⟨10, 0, v, HA.out, by decide, rfl, hv⟩⟩
    have e0 := isEmpty_no (Nat.pos_of_ne_zero h0)
    have e1 : (t.toList == []) = false := by
      cases hl : t.toList with
      | nil => rw [hl] at e0; cases e0
      | cons a l => rfl
    have H0 := Lib.hid h0
    clear h0
    go_wp2_with fail
    refine (cF.out _).mono ?_
    rintro e w3 ⟨hb3, h3⟩
    have HB3 := Lib.hid hb3
    have hg3 := hg.below hb3
    have hS3 := hS.below hb3
    have hU3 := hU.below hb3
    rcases h3 with ⟨v3, rfl, hlen, hown3⟩ | ⟨i, v3, rfl, hi1, hi2, hi3, hv3⟩
    · have hl127 : (cutAt t 46 t.size).1.length < 127 := by omega
      have HBAD2 := Lib.hid (fun e h2 => HBAD.out e H0.out hl127 h2)
      have HLONG2 := Lib.hid (fun xs h2 h3 => HLONG.out xs H0.out hl127 h2 h3)
      have HOKN2 := Lib.hid (fun xs h2 h3 => HOKN.out xs H0.out hl127 h2 h3)
      have hO : OwnS w3 w.heap.size v3 (fieldsB t) := by unfold OwnS; rw [HFL.out]; exact hown3
      have hps : (fieldsB t).length ≤ 127 := by rw [HFL.out]; omega
      have hkind := nameF_kind (fieldsB t) 0
      have HFS2 := Lib.hid HFS.out
      have HK := Lib.hid hkind
      clear hown3 hlen hl127 hb3 HMANY HEMP hkind HFS
      generalize fieldsB t = ps at *
      have HO := Lib.hid hO
      obtain ⟨pa, pc, rfl⟩ := row_len hO
      clear hO HFD HFL cF
      go_wp2_with fail
      go_loopw [5, 6, 28] (fun er a v wr => er = .nilIface ∧ ∃ (i at_ : Nat) (xs : List ByteArray), i ≤ ps.length ∧ v = .int .i64 i ∧ a = .int .i64 at_ ∧ at_ ≤ i * 2001 ∧ xs.length = i ∧ (∀ x ∈ xs, x.size ≤ 63) ∧ nameF ps 0 = aheadF xs (nameF (ps.drop i) at_) ∧ OwnS wr w.heap.size (.slice pa ps.length pc) (xs ++ ps.drop i) ∧ Below w.heap.size w wr) (fun _ _ v _ => ps.length - (intOf v).toNat)
      case atStart => exact ⟨rfl, 0, 0, [], Nat.zero_le _, rfl, rfl, Nat.zero_le _, rfl, (fun x hx => by cases hx), (ahead_nil _).symm, HO.out, HB3.out⟩
      case round =>
        obtain ⟨rfl, i, at_, xs, hil, rfl, rfl, hat, hxl, hxz, hgo, hown, hbr⟩ := hrel
        have HBR := Lib.hid hbr
        have hgr := hg.below hbr
        have hSr := hS.below hbr
        have hUr := hU.below hbr
        have hat2 : at_ ≤ 254127 := by omega
        have HAT := Lib.hid hat
        have HXZ := Lib.hid hxz
        have HXL := Lib.hid hxl
        clear hat hxz
        by_cases hlt : i < ps.length
        · obtain ⟨p, hpd⟩ : ∃ p, ps.drop i = p :: ps.drop (i + 1) := ⟨ps[i], List.drop_eq_getElem_cons hlt⟩
          have hpm : p ∈ ps := List.mem_of_mem_drop (i := i) (by rw [hpd]; simp)
          have hpz := HFS2.out p hpm
          have hlen2 : i < (xs ++ ps.drop i).length := by rw [List.length_append, hxl, List.length_drop]; omega
          have hpg : (xs ++ ps.drop i).getD i ByteArray.empty = p := by
            rw [hpd]
            simp only [List.getD]
            rw [List.getElem?_append_right (by omega), hxl, Nat.sub_self]
            rfl
          obtain ⟨g, rfl, hgb, hgl, hc1, hc2, d0, df⟩ := hown.cellS hlen2
          rw [hpg] at d0
          have hln : (xs ++ ps.drop i).length = ps.length := by rw [List.length_append, hxl, List.length_drop]; omega
          rw [hln] at hc1
          have HOr := Lib.hid hown
          have hiI : (i : Int) < (ps.length : Int) := by omega
          have cA := Lib.hid (label_ASCII p wr hSr hUr (by omega))
          have hgo1 := fun k j h => hgo.trans (congrArg (aheadF xs) ((congrArg (fun z => nameF z at_) hpd).trans (nameF_err (p := p) (ps := ps.drop (i + 1)) (a := at_) (k := k) (i := j) h)))
          have hgo2 := fun x h => (hgo.trans (congrArg (aheadF xs) ((congrArg (fun z => nameF z at_) hpd).trans (nameF_ok (p := p) (x := x) (ps := ps.drop (i + 1)) (a := at_) h)))).trans (ahead_ahead xs [x] _)
          have HGO1 := Lib.hid hgo1
          have HGO2 := Lib.hid hgo2
          have HSET := Lib.hid (fun x => set_mid2 xs ps i p x hxl hpd)
          have HL2 := Lib.hid hlen2
          unfold maxLen at hc2
          clear hgo hgo1 hgo2 hpd hpm hpg hxl hlen2 hln hown hbr hgr hSr hUr
          go_wp2_with fail
          refine cA.out.mono ?_
          rintro e w4 ⟨hb4, h4⟩
          have HB4 := Lib.hid (Bt HBR.out hb4)
          have HO4 := Lib.hid (HOr.out.below hb4)
          obtain ⟨g', e', _, hgl4, _, _, d0', df'⟩ := HO4.out.cellS HL2.out
          cases e'
          clear d0 df hb4
          rcases h4 with ⟨k, j, v, hE, hk, rfl, hv⟩ | ⟨x, hE, rfl⟩
          · have hj := asciiL_place hE
            have HA := Lib.hid (HGO1.out k j hE)
            have hv5 := HO4.out.fault hv i (.string ⟨#[]⟩)
            have HV5 := Lib.hid hv5
            have HB5 := Lib.hid (HB4.out.setCell (show w.heap.size ≤ (⟨g, i, none⟩ : Addr).block from hgb) (.string ⟨#[]⟩))
            have hg5 := hg.below HB5.out
            obtain ⟨q, rfl⟩ := hv.ne_nil
            clear hE hv hv5
            go_wp2_with fail
            refine (label_moved _ k j at_ _ hg5 HV5.out (by omega) (by omega)).mono ?_
            rintro e w6 ⟨u, rfl, hu, hb6⟩
            have hbE := Bt HB5.out hb6
            have HU := Lib.hid hu
            clear hu
            go_wp2_with fail
            go_ret2
            exact ⟨hbE, .inl ⟨k, at_ + j, u, HBAD2.out _ HA.out, hk, rfl, by rw [Nat.add_comm]; exact HU.out⟩⟩
          · have hx63 := asciiL_size hE
            have HA := Lib.hid (HGO2.out x hE)
            have ho5 := HO4.out.set i HL2.out x
            rw [HSET.out x] at ho5
            have HO5 := Lib.hid ho5
            have HB5 := Lib.hid (HB4.out.setCell (show w.heap.size ≤ (⟨g, i, none⟩ : Addr).block from hgb) (.string x))
            clear hE ho5
            go_wp2_with fail
            go_roundw
            case rel => exact ⟨rfl, i + 1, at_ + p.size + 1, xs ++ [x], by omega, by go_num, by go_num, by have := HAT.out; omega, by rw [List.length_append, HXL.out]; rfl, (fun y hy => by
              rcases List.mem_append.1 hy with hy | hy
              · exact HXZ.out y hy
              · obtain rfl := List.mem_singleton.1 hy; exact hx63), HA.out, HO5.out, HB5.out⟩
            case measure => simp [intOf]; omega
        · obtain rfl : i = ps.length := by omega
          have hiI : ¬ (ps.length : Int) < (ps.length : Int) := by omega
          rw [List.drop_length] at hgo hown
          rw [List.append_nil] at hown
          have hgo3 : nameF ps 0 = .ok xs := by
            rw [hgo]
            show Except.ok (xs ++ []) = _
            rw [List.append_nil]
          have cJ := name_join xs ps.length pa pc w.heap.size wr HXL.out hps HXZ.out hown
          have CJ := Lib.hid cJ
          have HLG := Lib.hid (fun h => HLONG2.out xs hgo3 h)
          have HKN := Lib.hid (fun h => HOKN2.out xs hgo3 h)
          have hjz2 := joinP_size xs ps.length HXL.out hps HXZ.out
          clear hgo hgo3 hown cJ hbr hgr hSr hUr
          obtain ⟨J, hJ⟩ : ∃ J, joinP xs = J := ⟨_, rfl⟩
          rw [hJ] at CJ HLG HKN hjz2
          clear hJ
          by_cases h253 : 253 < J.size
          · have hI : (J.size : Int) > 253 := by omega
            have HA := Lib.hid (HLG.out h253)
            clear h253
            go_wp2_with fail
            refine CJ.out.mono ?_
            rintro e w5 ⟨rfl, hb5⟩
            have hb6 := Bt HBR.out hb5
            go_wp2_with fail
            refine (api_Fail' 14 253 _).mono ?_
            rintro e w7 ⟨v7, rfl, hv7, hb7⟩
            have hbE := Bt hb6 hb7
            go_wp2_with fail
            go_ret2
            exact ⟨hbE, .inl ⟨14, 253, v7, HA.out, by decide, rfl, hv7⟩⟩
          · have hI : ¬ (J.size : Int) > 253 := by omega
            have HA := Lib.hid (HKN.out h253)
            clear h253
            go_wp2_with fail
            refine CJ.out.mono ?_
            rintro e w5 ⟨rfl, hb5⟩
            have hbE := Bt HBR.out hb5
            go_wp2_with fail
            go_ret2
            exact ⟨hbE, .inr ⟨J, HA.out, rfl⟩⟩
    · have HA := Lib.hid (HMANY.out i H0.out hi1 hi2 (by omega))
      have HV := Lib.hid hv3
      obtain ⟨p, rfl⟩ := hv3.ne_nil
      have hbE := HB3.out
      clear hi1 hi2 hi3 hv3 hb3
      go_wp2_with fail
      go_ret2
      exact ⟨hbE, .inl ⟨15, i, _, HA.out, by decide, rfl, HV.out⟩⟩
end Go.Proofs.YtbonnmkkacplgaaGreatDoor

/- errors.Is at a fault and a number: its contract; the statements' Has. -/
namespace Go.Proofs.YtbonnmkkacplgaaGreatDoor
open Go.RowKit Go.Extern.Stop Go.Stop Go.Extern

theorem ret_beq {a b c : Int} (h : c = b) : Ending.returned (.bool (a == b)) = .returned (.bool (a == c)) := by rw [h]
theorem Is_assertErrno (v : Value) (w : World) : (Instr.typeAssert (.iface 45 v) 24 45 true).run Tryz.prog w = .ok (.tuple #[v, .bool true]) w := by kernel_rfl

set_option maxHeartbeats 800000 in
set_option maxRecDepth 100000 in
theorem fault_Is (b : Nat) (k i n : Int) (inner : Value) (w : World) (hblk : w.heap[b]? = some (.cells #[.int .i64 k, .int .i64 i, inner] 79 (0, 0))) :
    Calls Tryz.prog 170 #[.pointer (some ⟨b, 0, none⟩), .iface 45 (.int .i64 n)] w fun e w' => e = .returned (.bool (n == k)) ∧ w = w' := by
  have hc : w.cell? ⟨b, 0, none⟩ = some (.int .i64 k) := by rw [cell_of_row w b 0 _ _ _ hblk]; rfl
  clear hblk
  have ta := Is_assertErrno
  go_enter Tryz.func170, Tryz.ntmps170
  go_wp2_with fail
  go_ret
  exact ⟨rfl, rfl⟩

set_option maxHeartbeats 800000 in
set_option maxRecDepth 100000 in
theorem fault_Unwrap (b : Nat) (k i : Int) (inner : Value) (w : World) (hblk : w.heap[b]? = some (.cells #[.int .i64 k, .int .i64 i, inner] 79 (0, 0))) :
    Calls Tryz.prog 171 #[.pointer (some ⟨b, 0, none⟩)] w fun e w' => e = .returned inner ∧ w = w' := by
  have hc : w.cell? ⟨b, 2, none⟩ = some inner := by rw [cell_of_row w b 2 _ _ _ hblk]; rfl
  clear hblk
  go_enter Tryz.func171, Tryz.ntmps171
  go_wp2_with fail
  go_ret
  exact ⟨rfl, rfl⟩

theorem Is_eq (p : Addr) (n : Int) (w : World) : (binOp .eql 24 (.iface 77 (.pointer (some p))) (.iface 45 (.int .i64 n))).run Tryz.prog w = .ok (.bool false) w := by kernel_rfl
theorem Is_assertIs (p : Addr) (w : World) : (Instr.typeAssert (.iface 77 (.pointer (some p))) 24 143 true).run Tryz.prog w = .ok (.tuple #[.iface 77 (.pointer (some p)), .bool true]) w := by kernel_rfl
theorem Is_assertUnwrap (p : Addr) (w : World) : (Instr.typeAssert (.iface 77 (.pointer (some p))) 24 146 true).run Tryz.prog w = .ok (.tuple #[.iface 77 (.pointer (some p)), .bool true]) w := by kernel_rfl
theorem Is_methodIs (p : Addr) (w : World) : (Go.method 316 77 (.pointer (some p)) "Is").run Tryz.prog w = .ok (170, .pointer (some p)) w := by kernel_rfl
theorem Is_methodUnwrap (p : Addr) (w : World) : (Go.method 316 77 (.pointer (some p)) "Unwrap").run Tryz.prog w = .ok (171, .pointer (some p)) w := by kernel_rfl
theorem Is_typeOf (v : Value) (w : World) : (ReflectliteType.typeOf #[.iface 45 v]).run Tryz.prog w = .ok (.iface 141 (.agg #[.pointer (some ⟨5, 45, none⟩)])) w := by kernel_rfl
theorem Is_methodComparable (h : Value) (w : World) : (Go.method 316 141 (.agg #[h]) "Comparable").run Tryz.prog w = .ok (178, .agg #[h]) w := by kernel_rfl

/-- What errors.Is tells of a fault that came from nothing, or from such a one. -/
def isKind (n k : Int) : Bool := n == k

set_option maxHeartbeats 1600000 in
set_option maxRecDepth 100000 in
theorem errors_is (b : Nat) (k i n : Int) (w : World) (hblk : w.heap[b]? = some (.cells #[.int .i64 k, .int .i64 i, .nilIface] 79 (0, 0))) :
    Calls Tryz.prog 85 #[.iface 77 (.pointer (some ⟨b, 0, none⟩)), .iface 45 (.int .i64 n), .bool true] w fun e w' => e = .returned (.bool (isKind n k)) ∧ w = w' := by
  have c1 := Lib.hid (fault_Is b k i n .nilIface w hblk)
  have c2 := Lib.hid (fault_Unwrap b k i .nilIface w hblk)
  clear hblk
  have f1 := Is_eq
  have f2 := Is_assertIs
  have f3 := Is_assertUnwrap
  have f4 := Is_methodIs
  have f5 := Is_methodUnwrap
  by_cases hk : n = k
  · have e : isKind n k = true := by simp [isKind, hk]
    have E := Lib.hid e
    have e2 : (n == k) = true := e
    clear e hk
    go_enter Tryz.func85, Tryz.ntmps85
    go_wp2_with fail
    refine wp_loop_rounds 1 ?_
    rw [rounds_succ]
    go_wp2_with fail
    refine c1.out.mono ?_
    rintro e w1 ⟨rfl, rfl⟩
    go_wp2_with fail
    go_ret
    exact ⟨ret_bool E.out.symm, rfl⟩
  · have e : isKind n k = false := by simp [isKind, hk]
    have E := Lib.hid e
    have e2 : (n == k) = false := e
    clear e hk
    go_enter Tryz.func85, Tryz.ntmps85
    go_wp2_with fail
    refine wp_loop_rounds 1 ?_
    rw [rounds_succ]
    go_wp2_with fail
    refine c1.out.mono ?_
    rintro e w1 ⟨rfl, rfl⟩
    go_wp2_with fail
    refine c2.out.mono ?_
    rintro e w1 ⟨rfl, rfl⟩
    go_wp2_with fail
    go_ret
    exact ⟨ret_bool E.out.symm, rfl⟩

set_option maxHeartbeats 1600000 in
set_option maxRecDepth 100000 in
theorem errors_is2 (b b2 : Nat) (k i k2 i2 n : Int) (w : World) (hblk : w.heap[b]? = some (.cells #[.int .i64 k, .int .i64 i, .iface 77 (.pointer (some ⟨b2, 0, none⟩))] 79 (0, 0)))
    (hblk2 : w.heap[b2]? = some (.cells #[.int .i64 k2, .int .i64 i2, .nilIface] 79 (0, 0))) :
    Calls Tryz.prog 85 #[.iface 77 (.pointer (some ⟨b, 0, none⟩)), .iface 45 (.int .i64 n), .bool true] w fun e w' => e = .returned (.bool (isKind n k || isKind n k2)) ∧ w = w' := by
  have c1 := Lib.hid (fault_Is b k i n _ w hblk)
  have c2 := Lib.hid (fault_Unwrap b k i _ w hblk)
  have c3 := Lib.hid (fault_Is b2 k2 i2 n _ w hblk2)
  have c4 := Lib.hid (fault_Unwrap b2 k2 i2 _ w hblk2)
  clear hblk hblk2
  have f1 := Is_eq
  have f2 := Is_assertIs
  have f3 := Is_assertUnwrap
  have f4 := Is_methodIs
  have f5 := Is_methodUnwrap
  by_cases hk : n = k
  · have e : (isKind n k || isKind n k2) = true := by simp [isKind, hk]
    have E := Lib.hid e
    have e2 : (n == k) = true := by simp [hk]
    clear e hk
    go_enter Tryz.func85, Tryz.ntmps85
    go_wp2_with fail
    refine wp_loop_rounds 1 ?_
    rw [rounds_succ]
    go_wp2_with fail
    refine c1.out.mono ?_
    rintro e w1 ⟨rfl, rfl⟩
    go_wp2_with fail
    go_ret
    exact ⟨ret_bool E.out.symm, rfl⟩
  · have e2 : (n == k) = false := by simp [hk]
    by_cases hk2 : n = k2
    · have e : (isKind n k || isKind n k2) = true := by simp [isKind, hk2]
      have E := Lib.hid e
      have e3 : (n == k2) = true := by simp [hk2]
      clear e hk hk2
      go_enter Tryz.func85, Tryz.ntmps85
      go_wp2_with fail
      refine wp_loop_rounds 2 ?_
      rw [rounds_succ]
      go_wp2_with fail
      refine c1.out.mono ?_
      rintro e w1 ⟨rfl, rfl⟩
      go_wp2_with fail
      refine c2.out.mono ?_
      rintro e w1 ⟨rfl, rfl⟩
      go_wp2_with fail
      rw [rounds_succ]
      go_wp2_with fail
      refine c3.out.mono ?_
      rintro e w1 ⟨rfl, rfl⟩
      go_wp2_with fail
      go_ret
      exact ⟨ret_bool E.out.symm, rfl⟩
    · have e : (isKind n k || isKind n k2) = false := by simp [isKind, hk, hk2]
      have E := Lib.hid e
      have e3 : (n == k2) = false := by simp [hk2]
      clear e hk hk2
      go_enter Tryz.func85, Tryz.ntmps85
      go_wp2_with fail
      refine wp_loop_rounds 2 ?_
      rw [rounds_succ]
      go_wp2_with fail
      refine c1.out.mono ?_
      rintro e w1 ⟨rfl, rfl⟩
      go_wp2_with fail
      refine c2.out.mono ?_
      rintro e w1 ⟨rfl, rfl⟩
      go_wp2_with fail
      rw [rounds_succ]
      go_wp2_with fail
      refine c3.out.mono ?_
      rintro e w1 ⟨rfl, rfl⟩
      go_wp2_with fail
      refine c4.out.mono ?_
      rintro e w1 ⟨rfl, rfl⟩
      go_wp2_with fail
      go_ret
      exact ⟨ret_bool E.out.symm, rfl⟩

set_option maxHeartbeats 1600000 in
set_option maxRecDepth 100000 in
theorem errors_Is (p : Addr) (n : Int) (r : Bool) (w : World)
    (c : Calls Tryz.prog 85 #[.iface 77 (.pointer (some p)), .iface 45 (.int .i64 n), .bool true] w fun e w' => e = .returned (.bool r) ∧ w = w') :
    Calls Tryz.prog 55 #[.iface 77 (.pointer (some p)), .iface 45 (.int .i64 n)] w fun e w' => e = .returned (.bool r) ∧ w = w' := by
  have C := Lib.hid c
  clear c
  have f1 := Is_typeOf
  have f2 := Is_methodComparable
  have h10 := @run_callFunc_extern Tryz.prog 84 _ ReflectliteType.typeOf Tryz.func84 (by kernel_rfl) (by kernel_rfl) (by kernel_rfl) (by kernel_rfl)
  have h11 : ∀ w : World, (callFunc 178 #[.agg #[.pointer (some ⟨5, 45, none⟩)]]).run Tryz.prog w = .ok (.value (.bool true)) w := fun w => by kernel_rfl
  go_enter Tryz.func55, Tryz.ntmps55
  go_wp2_with fail
  refine C.out.mono ?_
  rintro e w1 ⟨rfl, rfl⟩
  go_wp2_with fail
  go_ret
  exact ⟨rfl, rfl⟩

set_option maxHeartbeats 800000 in
theorem fault_Has (v : Value) (k i n : Int) (w : World) (hv : IsFault w v k i) :
    Calls Tryz.prog 28 #[v, .int .i64 n] w fun e w' => e = .returned (.bool (isKind n k)) ∧ w = w' := by
  obtain ⟨b, rfl, hblk⟩ := hv
  have C := Lib.hid (errors_Is ⟨b, 0, none⟩ n _ w (errors_is b k i n w hblk))
  clear hblk
  go_enter Tryz.func28, Tryz.ntmps28
  go_wp2_with fail
  refine C.out.mono ?_
  rintro e w1 ⟨rfl, rfl⟩
  go_wp2_with fail
  go_ret
  exact ⟨rfl, rfl⟩
end Go.Proofs.YtbonnmkkacplgaaGreatDoor
