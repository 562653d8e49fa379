/- label.Shown; the reference's; what is shown is told back. -/
import Derived.Test.YtbonnmkkacplgaaGreatDoorLabelJoinedM23
import Derived.Test.YtbonnmkkacplgaaGreatDoorLabelJoinedM29
import Derived.Test.YtbonnmkkacplgaaGreatDoorLabelJoinedM6
import Derived.Test.YtbonnmkkacplgaaGreatDoorLabelJoinedM16
import Derived.Test.YtbonnmkkacplgaaGreatDoorLabelJoinedM20
import Derived.Test.YtbonnmkkacplgaaGreatDoorLabelJoinedM17
import Derived.Test.YtbonnmkkacplgaaGreatDoorLabelJoinedM21
import Derived.Test.YtbonnmkkacplgaaGreatDoorLabelJoinedM22

namespace Go.Proofs.YtbonnmkkacplgaaGreatDoor
open Go.RowKit

/-- How a label is shown. -/
def shownL (s : ByteArray) : ByteArray := match labD s with | some l => ⟨(putAll l).toArray⟩ | none => s
theorem shownL_some {s : ByteArray} {l : List Nat} (h : labD s = some l) : shownL s = ⟨(putAll l).toArray⟩ := by unfold shownL; rw [h]
theorem shownL_none {s : ByteArray} (h : labD s = none) : shownL s = s := by unfold shownL; rw [h]
theorem coded_of_lab {s : ByteArray} {l : List Nat} (h : labD s = some l) : codedB s = true := by
  obtain ⟨h1, _⟩ := labD_inv h
  have hp : xnL <+: s.data.toList := List.isPrefixOf_iff_prefix.1 h1
  obtain ⟨r, hr⟩ := hp
  have hl : s.data.toList.length = s.size := rfl
  rw [← hr] at hl
  simp [xnL] at hl
  have h2 : byteAt s 2 = 45 := by unfold byteAt; rw [← hr]; rfl
  have h3 : byteAt s 3 = 45 := by unfold byteAt; rw [← hr]; rfl
  exact decide_eq_true ⟨by omega, h2, h3⟩
theorem right_inv {s : ByteArray} (h : (rightL s).1 = 0) : s.size ≤ 63 ∧ s.size ≠ 0 ∧ badAt s s.size 0 = none ∧ fineB s = true := by
  by_cases h0 : s.size = 0
  · rw [rightL_empty h0] at h; cases h
  · by_cases h1 : 63 < s.size
    · rw [rightL_long h0 h1] at h; cases h
    · cases hb : badAt s s.size 0 with
      | some i => rw [rightL_bad h0 h1 hb] at h; cases h
      | none =>
        rw [rightL_fine h0 h1 hb] at h
        cases hf : fineB s with
        | true => exact ⟨by omega, h0, rfl, rfl⟩
        | false => rw [hf] at h; cases h
theorem may_small {c : Nat} (h : mayB c = true) : smallN c = c := by
  unfold smallN
  rw [if_neg]
  intro hh
  unfold mayB at h
  have e1 : smallZ (c : Int) = false := decide_eq_false (by omega)
  have e2 : charZ (c : Int) = false := char_out (by unfold inSpan; omega)
  rw [e1, e2] at h
  cases h
theorem badC_none : ∀ (l : List Nat) (k : Nat), (∀ c ∈ l, mayB c = true) → badC l k = none := by
  intro l
  induction l with
  | nil => intro k _; rfl
  | cons c l ih => intro k h; rw [badC_next (h c (by simp))]; exact ih _ fun x hx => h x (by simp [hx])
theorem putAll_le4 (l : List Nat) : (putAll l).length ≤ 4 * l.length := by
  induction l with
  | nil => exact Nat.zero_le _
  | cons c l ih => rw [putAll_cons, List.length_append, List.length_cons]; have := putL_le c; omega
theorem shown_size {s : ByteArray} (h : (rightL s).1 = 0) : (shownL s).size ≤ 1024 := by
  obtain ⟨h1, _⟩ := right_inv h
  cases hl : labD s with
  | none => rw [shownL_none hl]; omega
  | some l =>
    rw [shownL_some hl]
    obtain ⟨_, h2, _⟩ := labD_inv hl
    have h3 := (decE_facts h2).2
    have h4 := putAll_le4 l
    show (putAll l).toArray.size ≤ 1024
    simp
    omega
/-- What is shown is told back. -/
theorem shown_back {s : ByteArray} (h : (rightL s).1 = 0) : asciiL (shownL s) = .ok s := by
  obtain ⟨h1, h2, h3, h4⟩ := right_inv h
  cases hl : labD s with
  | none => rw [shownL_none hl]; exact ascii_fix h
  | some l =>
    rw [shownL_some hl]
    obtain ⟨p1, p2, p3, p4, p5, p6⟩ := labD_inv hl
    obtain ⟨f1, f2⟩ := decE_facts p2
    have hmay := List.all_eq_true.1 p3
    have hc := chrs_put l fun c hc => (rightC_iff c).2 (f1 c hc)
    have hlow : lowerS ⟨(putAll l).toArray⟩ = ⟨(putAll l).toArray⟩ := by
      have e : lowerS ⟨(putAll l).toArray⟩ = ⟨((putAll l).map lowerB).toArray⟩ := rfl
      have e2 : l.map smallN = l := by
        have := List.map_congr_left (l := l) (f := smallN) (g := id) fun c hc => may_small (hmay c hc)
        rw [this, List.map_id]
      rw [e, lower_all l fun c hc => (rightC_iff c).2 (f1 c hc), e2]
    rw [asciiL_wide (by rw [hc]) (by rw [hc]; exact p4), hlow, lowC_ok (by rw [hc]), hc]
    have hp : xnL <+: s.data.toList := List.isPrefixOf_iff_prefix.1 p1
    obtain ⟨r, hr⟩ := hp
    have hbr : (bodyS s).data.toList = r := by
      show s.data.toList.drop 4 = r
      rw [← hr]
      rfl
    have hsz : s.data.toList.length = s.size := rfl
    have hrl : r.length + 4 = s.size := by
      rw [← hr, List.length_append] at hsz
      have : xnL.length = 4 := rfl
      omega
    rw [asciiW_ok (badC_none l 0 hmay) p6 (by rw [p5, hbr]; omega)]
    congr 1
    apply ba_ext
    show xnL ++ encN l = s.data.toList
    rw [p5, hbr, hr]
theorem rightLen_nats {l : List Nat} (h : ∀ c ∈ l, rightB (c : Int) = true) : rightLen (intsN l) = (intsN l).length := intsN_right l h
def ShownPost (s : ByteArray) (w : World) (e : Ending) (w' : World) : Prop := Below w.heap.size w w' ∧
  (((rightL s).1 ≠ 0 ∧ ∃ v, e = .returned (.tuple #[.string ⟨#[]⟩, v]) ∧ IsFault w' v (rightL s).1 (rightL s).2) ∨ ((rightL s).1 = 0 ∧ e = .returned (.tuple #[.string (shownL s), .nilIface])))
set_option maxHeartbeats 3200000 in
set_option maxRecDepth 100000 in
theorem label_Shown (s : ByteArray) (w : World) (hS : SpanLaid w) (hs : s.size ≤ 1000000) : Calls Tryz.prog 21 #[.string s] w (ShownPost s w) := by
  have c1 := Lib.hid (fun W h => label_Right s W h hs)
  have c2 := Lib.hid (fun W => label_coded s W hs)
  have c3 := Lib.hid (fun W h => label_decode s W h hs)
  go_enter Tryz.func21, Tryz.ntmps21
  go_wp2_with fail
  refine (c1.out _ hS).mono ?_
  rintro e w1 ⟨hb1, v, rfl, hv⟩
  have hS := hS.below hb1
  rcases hv with ⟨h0, rfl⟩ | ⟨h0, hv⟩
  · obtain ⟨_, _, _, hf⟩ := right_inv h0
    have hfb : fineB s = (decide (byteAt s 0 ≠ 45) && decide (byteAt s (s.size - 1) ≠ 45) && (!codedB s || (labD s).isSome)) := rfl
    rw [hf] at hfb
    have H0 := Lib.hid h0
    clear h0 hf
    cases hc : codedB s with
    | false =>
      rw [hc] at c2
      have hn : labD s = none := by
        cases hl : labD s with
        | none => rfl
        | some l => rw [coded_of_lab hl] at hc; cases hc
      have HX := Lib.hid (shownL_none hn)
      clear hfb hc hn
      go_wp2_with fail
      refine (c2.out _).mono ?_
      rintro e w2 ⟨rfl, hw2⟩
      obtain rfl := hw2
      go_wp2_with fail
      go_ret2
      exact ⟨hb1, .inr ⟨H0.out, by rw [HX.out]; rfl⟩⟩
    | true =>
      rw [hc] at c2
      have hn : (labD s).isSome = true := by
        rw [hc] at hfb
        cases hl : (labD s).isSome with
        | true => rfl
        | false => rw [hl] at hfb; simp at hfb
      have HN := Lib.hid hn
      clear hfb hc hn
      go_wp2_with fail
      refine (c2.out _).mono ?_
      rintro e w2 ⟨rfl, hw2⟩
      obtain rfl := hw2
      go_wp2_with fail
      refine (c3.out _ hS).mono ?_
      rintro e w3 ⟨hb3, h3⟩
      have hb := Bt hb1 hb3
      rcases h3 with ⟨hl, _⟩ | ⟨l, v, hl, rfl, hown⟩
      · have := HN.out
        rw [hl] at this
        cases this
      · have HX := Lib.hid (shownL_some hl)
        obtain ⟨_, h2, _⟩ := labD_inv hl
        obtain ⟨f1, f2⟩ := decE_facts h2
        have c4 := Lib.hid (utf_Text v (intsN l) w3 (by rw [intsN_len]; omega) hown.sl)
        have hR := Lib.hid (rightLen_nats f1)
        have hN := Lib.hid (nats_intsN l)
        clear hl h2 f1 f2 hown hb3
        go_wp2_with fail
        refine c4.out.mono ?_
        rintro e w4 ⟨hb4, h4⟩
        have hb := Bt hb hb4
        rcases h4 with ⟨_, v4, rfl, hv4⟩ | ⟨hlt, _⟩
        · have hcv := hv4.conv
          rw [hN.out, ← HX.out] at hcv
          clear hb4 hv4
          go_wp2_with fail
          go_ret2
          exact ⟨hb, .inr ⟨H0.out, rfl⟩⟩
        · have := hR.out
          omega
  · obtain ⟨p, rfl⟩ := hv.ne_nil
    have HV := Lib.hid hv
    have H0 := Lib.hid h0
    clear hv h0
    go_wp2_with fail
    go_ret2
    exact ⟨hb1, .inl ⟨H0.out, _, rfl, HV.out⟩⟩
set_option maxHeartbeats 3200000 in
set_option maxRecDepth 100000 in
theorem ref10_Shown (s : ByteArray) (w : World) (hs : s.size ≤ 2000) : Calls Tryz.prog 22 #[.string s] w fun e w' => e = .returned (.string (shownL s)) ∧ Below w.heap.size w w' := by
  have c3 := Lib.hid (fun W => ref10_Coded s W hs)
  go_enter Tryz.func22, Tryz.ntmps22
  go_wp2_with fail
  refine (c3.out _).mono ?_
  rintro e w3 ⟨hb, h3⟩
  rcases h3 with ⟨hl, v, rfl⟩ | ⟨l, v, hl, rfl, hown⟩
  · have HX := Lib.hid (shownL_none hl)
    clear hl
    go_wp2_with fail
    go_ret
    exact ⟨by rw [HX.out]; rfl, hb⟩
  · have HX := Lib.hid (shownL_some hl)
    obtain ⟨_, h2, _⟩ := labD_inv hl
    obtain ⟨f1, f2⟩ := decE_facts h2
    have c4 := Lib.hid (ref_Text v (intsN l) w3 (by rw [intsN_len]; omega) hown.sl)
    have hR := Lib.hid (rightLen_nats f1)
    have hN := Lib.hid (nats_intsN l)
    clear hl h2 f1 f2 hown
    go_wp2_with fail
    refine c4.out.mono ?_
    rintro e w4 ⟨hb4, h4⟩
    have hb := Bt hb hb4
    rcases h4 with ⟨_, v4, rfl, hv4⟩ | ⟨hlt, _⟩
    · have hcv := hv4.conv
      rw [hN.out, ← HX.out] at hcv
      clear hb4 hv4
      go_wp2_with fail
      go_ret
      exact ⟨rfl, hb⟩
    · have := hR.out
      omega
end Go.Proofs.YtbonnmkkacplgaaGreatDoor

/- Names that were told, in plain words. -/
namespace Go.Proofs.YtbonnmkkacplgaaGreatDoor
open Go.RowKit

theorem right_bytes {p : ByteArray} (h : (rightL p).1 = 0) : ∀ b ∈ p.data.toList, SmB b := all_sm.1 (right_inv h).2.2.1
theorem sm_dot {b : UInt8} (h : SmB b) : b ≠ 46 := by rintro rfl; exact absurd (show smallZ ((46 : UInt8).toNat : Int) = true from h) (by decide)
theorem right_ne {p : ByteArray} (h : (rightL p).1 = 0) : p.data.toList ≠ [] := by
  intro e
  have h1 := (right_inv h).2.1
  have h2 : p.data.toList.length = p.size := rfl
  rw [e] at h2
  exact h1 h2.symm
/-- A name that was told: of right labels. -/
structure GoodName (t : ByteArray) (xs : List ByteArray) : Prop where
  eq : t = joinP xs
  ne : xs ≠ []
  right : ∀ p ∈ xs, (rightL p).1 = 0
theorem nameF_right : ∀ (ps : List ByteArray) (a : Nat) (xs : List ByteArray), nameF ps a = .ok xs → xs.length = ps.length ∧ ∀ x ∈ xs, (rightL x).1 = 0 := by
  intro ps
  induction ps with
  | nil => intro a xs h; cases h; exact ⟨rfl, fun x hx => by cases hx⟩
  | cons p ps ih =>
    intro a xs h
    cases hp : asciiL p with
    | error e =>
      obtain ⟨k, i⟩ := e
      rw [nameF_err hp] at h
      cases h
    | ok x =>
      rw [nameF_ok hp] at h
      cases hr : nameF ps (a + p.size + 1) with
      | error e => rw [hr] at h; cases h
      | ok ys =>
        rw [hr] at h
        obtain rfl : x :: ys = xs := Except.ok.inj h
        obtain ⟨h1, h2⟩ := ih _ _ hr
        refine ⟨by simp [h1], fun z hz => ?_⟩
        rcases List.mem_cons.1 hz with rfl | hz
        · exact ascii_right hp
        · exact h2 z hz
theorem nameF_fix : ∀ (xs : List ByteArray) (a : Nat), (∀ p ∈ xs, (rightL p).1 = 0) → nameF xs a = .ok xs := by
  intro xs
  induction xs with
  | nil => intro a _; rfl
  | cons x xs ih =>
    intro a h
    rw [nameF_ok (ascii_fix (h x (by simp))), ih _ fun p hp => h p (by simp [hp])]
    rfl
theorem joinP_data (xs : List ByteArray) : (joinP xs).data.toList = joinA 46 (xs.map (·.data.toList)) := ofL_data _
theorem split_name {t : ByteArray} {xs : List ByteArray} (h : GoodName t xs) : splitL 46 t.data.toList = xs.map (·.data.toList) := by
  rw [h.eq, joinP_data]
  refine split_join 46 _ (by intro e; exact h.ne (List.map_eq_nil_iff.1 e)) fun p hp x hx => ?_
  obtain ⟨q, hq, rfl⟩ := List.mem_map.1 hp
  exact sm_dot (right_bytes (h.right q hq) x hx)
theorem map_back (xs : List ByteArray) : (xs.map (·.data.toList)).map ofL = xs := by
  rw [List.map_map]
  have := List.map_congr_left (l := xs) (f := ofL ∘ (·.data.toList)) (g := id) fun b _ => ofL_list b
  rw [this, List.map_id]
theorem fields_name {t : ByteArray} {xs : List ByteArray} (h : GoodName t xs) : fieldsB t = xs := by
  unfold fieldsB
  rw [fields_split, split_name h, map_back]
theorem parts_name {t : ByteArray} {xs : List ByteArray} (h : GoodName t xs) : partsB 46 t = xs := by
  unfold partsB
  rw [split_name h, map_back]
theorem joinA_two (c : UInt8) : ∀ a b : List (List UInt8), a ≠ [] → b ≠ [] → joinA c (a ++ b) = joinA c a ++ c :: joinA c b := by
  intro a
  induction a with
  | nil => intro b h _; exact absurd rfl h
  | cons p a ih =>
    intro b _ hb
    cases a with
    | nil =>
      cases b with
      | nil => exact absurd rfl hb
      | cons q r => rfl
    | cons q r =>
      show p ++ c :: joinA c ((q :: r) ++ b) = (p ++ c :: joinA c (q :: r)) ++ c :: joinA c b
      rw [ih b (by simp) hb]
      simp
theorem joinA_end (c : UInt8) : ∀ a : List (List UInt8), a ≠ [] → ∃ pre p, p ∈ a ∧ joinA c a = pre ++ p := by
  intro a
  induction a with
  | nil => intro h; exact absurd rfl h
  | cons p a ih =>
    intro _
    cases a with
    | nil => exact ⟨[], p, by simp, rfl⟩
    | cons q r =>
      obtain ⟨pre, z, hz, e⟩ := ih (by simp)
      refine ⟨p ++ c :: pre, z, by simp at hz ⊢; exact .inr hz, ?_⟩
      show p ++ c :: joinA c (q :: r) = _
      rw [e]
      simp
theorem joinA_size (c : UInt8) : ∀ a : List (List UInt8), (∀ p ∈ a, p ≠ []) → 2 * a.length ≤ (joinA c a).length + 1 := by
  intro a
  induction a with
  | nil => intro _; exact Nat.zero_le _
  | cons p a ih =>
    intro h
    have hp := List.length_pos_iff.2 (h p (by simp))
    cases a with
    | nil => show 2 * 1 ≤ p.length + 1; omega
    | cons q r =>
      have := ih fun x hx => h x (by simp [hx])
      show 2 * ((q :: r).length + 1) ≤ (p ++ c :: joinA c (q :: r)).length + 1
      have e : (p ++ c :: joinA c (q :: r)).length = p.length + ((joinA c (q :: r)).length + 1) := by rw [List.length_append]; rfl
      rw [e]
      omega
theorem name_end {t : ByteArray} {xs : List ByteArray} (h : GoodName t xs) : 0 < t.size ∧ byteAt t (t.size - 1) ≠ 46 := by
  obtain ⟨pre, p, hp, e⟩ := joinA_end 46 (xs.map (·.data.toList)) (by intro e; exact h.ne (List.map_eq_nil_iff.1 e))
  obtain ⟨q, hq, rfl⟩ := List.mem_map.1 hp
  have hr := h.right q hq
  have hne := List.length_pos_iff.2 (right_ne hr)
  have ht : t.data.toList = pre ++ q.data.toList := by rw [h.eq, joinP_data, e]
  have hz : t.data.toList.length = t.size := rfl
  have hl : t.size = pre.length + q.data.toList.length := by rw [← hz, ht, List.length_append]
  refine ⟨by omega, ?_⟩
  have hb : byteAt t (t.size - 1) ∈ q.data.toList := by
    have e2 : byteAt t (t.size - 1) = t.data.toList.getD (t.size - 1) 0 := rfl
    rw [e2, ht, hl]
    simp only [List.getD]
    rw [List.getElem?_append_right (by omega), List.getElem?_eq_getElem (by omega)]
    exact List.getElem_mem _
  exact sm_dot (right_bytes hr _ hb)
theorem cut_name {t : ByteArray} {xs : List ByteArray} (h : GoodName t xs) : cutP t = t := by
  unfold cutP
  rw [if_neg (fun hh => (name_end h).2 hh.2)]
theorem count_name {t : ByteArray} {xs : List ByteArray} (h : GoodName t xs) : 2 * xs.length ≤ t.size + 1 := by
  have := joinA_size 46 (xs.map (·.data.toList)) fun p hp => by
    obtain ⟨q, hq, rfl⟩ := List.mem_map.1 hp
    exact right_ne (h.right q hq)
  rw [List.length_map, ← joinP_data, ← h.eq] at this
  exact this
/-- A name that was told is told as itself. -/
theorem name_fix {t : ByteArray} {xs : List ByteArray} (h : GoodName t xs) (hz : t.size ≤ 253) {r : Except (Nat × Nat) ByteArray} (hr : NameIs t r) : r = .ok t := by
  have hc := cut_name h
  have hf := fields_name h
  have hn := nameF_fix xs 0 h.right
  have hl := fieldsB_len t
  rw [hf] at hl
  have hcount := count_name h
  cases hr with
  | empty h1 => rw [hc] at h1; have := (name_end h).1; omega
  | many i h1 h2 h3 h4 =>
    rw [hc] at h2 h4
    have := cutAt_mono t 46 (show i + 1 ≤ t.size from h2)
    omega
  | bad e h1 h2 h3 => rw [hc, hf, hn] at h3; cases h3
  | long ys h1 h2 h3 h4 =>
    rw [hc, hf, hn] at h3
    obtain rfl := Except.ok.inj h3
    rw [← h.eq] at h4
    omega
  | ok ys h1 h2 h3 h4 =>
    rw [hc, hf, hn] at h3
    obtain rfl := Except.ok.inj h3
    rw [← h.eq]
theorem name_good {s t : ByteArray} (h : NameIs s (.ok t)) : ∃ xs, GoodName t xs ∧ t.size ≤ 253 := by
  cases h with
  | ok xs h1 h2 h3 h4 =>
    obtain ⟨a, b⟩ := nameF_right _ _ _ h3
    refine ⟨xs, ⟨rfl, ?_, b⟩, by omega⟩
    rintro rfl
    have := fieldsB_len (cutP s)
    rw [← a] at this
    cases this
theorem join_names {x y : ByteArray} {xs ys : List ByteArray} (h1 : GoodName x xs) (h2 : GoodName y ys) : GoodName (x ++ ⟨#[46]⟩ ++ y) (xs ++ ys) := by
  refine ⟨?_, by intro e; exact h1.ne (List.append_eq_nil_iff.1 e).1, fun p hp => ?_⟩
  · apply ba_ext
    rw [joinP_data, List.map_append, joinA_two 46 _ _ (by intro e; exact h1.ne (List.map_eq_nil_iff.1 e)) (by intro e; exact h2.ne (List.map_eq_nil_iff.1 e)), data_append, data_append, ← joinP_data, ← joinP_data, ← h1.eq, ← h2.eq]
    show (x.data.toList ++ [46]) ++ y.data.toList = _
    simp
  · rcases List.mem_append.1 hp with hp | hp
    · exact h1.right p hp
    · exact h2.right p hp
end Go.Proofs.YtbonnmkkacplgaaGreatDoor

/- The walk of LabelJoined. -/
namespace Go.Proofs.YtbonnmkkacplgaaGreatDoor
open Go.RowKit

theorem name_calls (s : ByteArray) (w : World) (hH : Handle w) (hS : SpanLaid w) (hU : Utf8Laid w) (hs : s.size ≤ 2000) : Calls Tryz.prog 14 #[.string s] w fun e w' => Below w.heap.size w w' ∧
    ((∃ p, e = .returned (.tuple #[.string ⟨#[]⟩, .iface 77 p])) ∨ ∃ t xs, GoodName t xs ∧ t.size ≤ 253 ∧ e = .returned (.tuple #[.string t, .nilIface])) :=
  (label_Name s w hH hS hU hs).mono fun e w' ⟨hb, h⟩ => by
    refine ⟨hb, ?_⟩
    rcases h with ⟨k, i, v, _, _, he, hv⟩ | ⟨t, hN, he⟩
    · obtain ⟨p, rfl⟩ := hv.ne_nil
      exact .inl ⟨p, he⟩
    · obtain ⟨xs, hg, hz⟩ := name_good hN
      exact .inr ⟨t, xs, hg, hz, he⟩
theorem name_again {t : ByteArray} {xs : List ByteArray} (hg : GoodName t xs) (hz : t.size ≤ 253) (w : World) (hH : Handle w) (hS : SpanLaid w) (hU : Utf8Laid w) : Calls Tryz.prog 14 #[.string t] w fun e w' => e = .returned (.tuple #[.string t, .nilIface]) ∧ Below w.heap.size w w' :=
  (label_Name t w hH hS hU (by omega)).mono fun e w' ⟨hb, h⟩ => by
    rcases h with ⟨k, i, v, hN, _⟩ | ⟨t', hN, he⟩
    · have := name_fix hg hz hN; cases this
    · have := name_fix hg hz hN
      obtain rfl := Except.ok.inj this
      exact ⟨he, hb⟩
theorem labels_len (s : ByteArray) (w : World) (n : Nat) (hs : s.size ≤ 2000) (hn : (partsB 46 s).length = n) : Calls Tryz.prog 25 #[.string s] w fun e w' => ∃ a, e = .returned (.slice a n n) ∧ Below w.heap.size w w' :=
  (label_Labels s w (by omega)).mono fun e w' ⟨a, he, _, hb⟩ => ⟨a, by rw [he, hn], hb⟩
theorem beneath_joined {x y : ByteArray} (hx : 0 < x.size) : beneathB (x ++ ⟨#[46]⟩ ++ y) y = true := by
  have e : (x ++ (⟨#[46]⟩ : ByteArray) ++ y).data.toList = x.data.toList ++ 46 :: y.data.toList := by
    rw [data_append, data_append]
    show (x.data.toList ++ [46]) ++ y.data.toList = _
    simp
  have hz : (x ++ (⟨#[46]⟩ : ByteArray) ++ y).size = x.size + 1 + y.size := by rw [ByteArray.size_append, ByteArray.size_append]; rfl
  rw [beneath_yes (by omega), e]
  exact List.isSuffixOf_iff_suffix.2 ⟨_, rfl⟩
set_option maxHeartbeats 3200000 in
set_option maxRecDepth 100000 in
theorem walkLabelJoined (a b : ByteArray) (w : World) (hH : Handle w) (hU : Utf8Laid w) (hS : SpanLaid w) (ha : a.size ≤ maxLen) (hb : b.size ≤ maxLen) :
    Calls Tryz.prog 8 #[.string a, .string b] w fun e w' => e = .returned (.bool true) ∧ Below w.heap.size w w' := by
  unfold maxLen at ha hb
  have c1 := Lib.hid (fun W h1 h2 h3 => speaks10 W h1 h2 h3)
  by_cases h1 : 500 < a.size
  · have hI : (a.size : Int) > 500 := by omega
    go_enter Tryz.func8, Tryz.ntmps8
    go_wp2_with fail
    refine (c1.out _ hH hS hU).mono ?_
    rintro e w1 ⟨rfl, hb1⟩
    go_wp2_with fail
    go_ret
    exact ⟨rfl, hb1⟩
  have hI : ¬ (a.size : Int) > 500 := by omega
  by_cases h2 : 500 < b.size
  · have hJ : (b.size : Int) > 500 := by omega
    go_enter Tryz.func8, Tryz.ntmps8
    go_wp2_with fail
    refine (c1.out _ hH hS hU).mono ?_
    rintro e w1 ⟨rfl, hb1⟩
    go_wp2_with fail
    go_ret
    exact ⟨rfl, hb1⟩
  have hJ : ¬ (b.size : Int) > 500 := by omega
  have c2 := Lib.hid (fun W h1 h2 h3 => name_calls a W h1 h2 h3 (by omega))
  have c3 := Lib.hid (fun W h1 h2 h3 => name_calls b W h1 h2 h3 (by omega))
  clear h1 h2
  go_enter Tryz.func8, Tryz.ntmps8
  go_wp2_with fail
  refine (c1.out _ hH hS hU).mono ?_
  rintro e w1 ⟨rfl, hb⟩
  have hS := hS.below hb
  have hU := hU.below hb
  have hH := hH.below hb
  go_wp2_with fail
  refine (c2.out _ hH hS hU).mono ?_
  rintro e w2 ⟨hb2, h2⟩
  have hS := hS.below hb2
  have hU := hU.below hb2
  have hH := hH.below hb2
  have hb := Bt hb hb2
  clear hb2
  rcases h2 with ⟨p, rfl⟩ | ⟨x, xs, hgx, hzx, rfl⟩
  · go_wp2_with fail
    refine (c3.out _ hH hS hU).mono ?_
    rintro e w3 ⟨hb3, h3⟩
    have hb := Bt hb hb3
    obtain ⟨y, v, rfl⟩ : ∃ y v, e = .returned (.tuple #[.string y, v]) := by
      rcases h3 with ⟨p, rfl⟩ | ⟨y, ys, _, _, rfl⟩
      · exact ⟨_, _, rfl⟩
      · exact ⟨_, _, rfl⟩
    clear h3
    go_wp2_with fail
    go_ret
    exact ⟨rfl, hb⟩
  have HX := Lib.hid hgx
  clear hgx
  go_wp2_with fail
  refine (c3.out _ hH hS hU).mono ?_
  rintro e w3 ⟨hb3, h3⟩
  have hS := hS.below hb3
  have hU := hU.below hb3
  have hH := hH.below hb3
  have hb := Bt hb hb3
  clear hb3
  rcases h3 with ⟨p, rfl⟩ | ⟨y, ys, hgy, hzy, rfl⟩
  · go_wp2_with fail
    go_ret
    exact ⟨rfl, hb⟩
  by_cases h250 : 250 < x.size + y.size
  · have hK : (x.size : Int) + (y.size : Int) > 250 := by omega
    clear hgy
    go_wp2_with fail
    go_ret
    exact ⟨rfl, hb⟩
  have hK : ¬ (x.size : Int) + (y.size : Int) > 250 := by omega
  have hg := join_names HX.out hgy
  have hz : (x ++ (⟨#[46]⟩ : ByteArray) ++ y).size = x.size + 1 + y.size := by rw [ByteArray.size_append, ByteArray.size_append]; rfl
  have c4 := Lib.hid (fun W h1 h2 h3 => name_again hg (by omega) W h1 h2 h3)
  have c5 := Lib.hid (fun W => labels_len (x ++ ⟨#[46]⟩ ++ y) W (xs.length + ys.length) (by omega) (by rw [parts_name hg, List.length_append]))
  have c6 := Lib.hid (fun W => labels_len x W xs.length (by omega) (by rw [parts_name HX.out]))
  have c7 := Lib.hid (fun W => labels_len y W ys.length (by omega) (by rw [parts_name hgy]))
  have hx0 := (name_end HX.out).1
  have c8 := Lib.hid (fun W => label_Beneath (x ++ ⟨#[46]⟩ ++ y) y W (by omega) (by omega))
  rw [beneath_joined hx0] at c8
  have c9 := Lib.hid (fun W => label_Beneath y (x ++ ⟨#[46]⟩ ++ y) W (by omega) (by omega))
  rw [beneath_no (by omega)] at c9
  have hnx := count_name HX.out
  have hny := count_name hgy
  have hzz : ((x ++ (⟨#[46]⟩ : ByteArray) ++ y).toList == (x ++ (⟨#[46]⟩ : ByteArray) ++ y).toList) = true := beq_self_eq_true _
  generalize xs.length = nx at *
  generalize ys.length = ny at *
  have hn1 : nx ≤ 200 := by omega
  have hn2 : ny ≤ 200 := by omega
  have hq : (((nx + ny : Nat) : Int) == (nx : Int) + (ny : Int)) = true := by rw [beq_iff_eq]; omega
  clear hg hgy hz h250 hx0 hnx hny
  go_wp2_with fail
  refine (c4.out _ hH hS hU).mono ?_
  rintro e w4 ⟨rfl, hb4⟩
  have hb := Bt hb hb4
  clear hb4 hH hS hU
  go_wp2_with fail
  refine (c5.out _).mono ?_
  rintro e w5 ⟨a5, rfl, hb5⟩
  have hb := Bt hb hb5
  clear hb5
  go_wp2_with fail
  refine (c6.out _).mono ?_
  rintro e w6 ⟨a6, rfl, hb6⟩
  have hb := Bt hb hb6
  clear hb6
  go_wp2_with fail
  refine (c7.out _).mono ?_
  rintro e w7 ⟨a7, rfl, hb7⟩
  have hb := Bt hb hb7
  clear hb7
  go_wp2_with fail
  refine (c8.out _).mono ?_
  rintro e w8 ⟨rfl, hw⟩
  obtain rfl := hw
  go_wp2_with fail
  refine (c9.out _).mono ?_
  rintro e w8 ⟨rfl, hw⟩
  obtain rfl := hw
  go_wp2_with fail
  go_ret
  exact ⟨rfl, hb⟩
end Go.Proofs.YtbonnmkkacplgaaGreatDoor
