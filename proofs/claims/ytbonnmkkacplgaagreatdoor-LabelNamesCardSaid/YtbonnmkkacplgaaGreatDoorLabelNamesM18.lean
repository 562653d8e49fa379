/- strings.Join of any row. -/
import Derived.Test.YtbonnmkkacplgaaGreatDoorLabelNamesM17
import Derived.Test.YtbonnmkkacplgaaGreatDoorLabelNamesM12
import Derived.Test.YtbonnmkkacplgaaGreatDoorLabelNamesM1
import Derived.Test.YtbonnmkkacplgaaGreatDoorLabelNamesM3
import Derived.Test.YtbonnmkkacplgaaGreatDoorLabelNamesM11
import Derived.Test.YtbonnmkkacplgaaGreatDoorLabelNamesM16

namespace Go.Proofs.YtbonnmkkacplgaaGreatDoor
open Go.RowKit

theorem map_ofL (ps : List (List UInt8)) : (ps.map ofL).map (·.data.toList) = ps := by
  rw [List.map_map]
  conv => rhs; rw [← List.map_id ps]
  exact List.map_congr_left fun x _ => (by simp [ofL])
theorem str_Join (ps : List (List UInt8)) (m : UInt8) (a : Option Addr) (n c : Nat) (W : World) (hn : n = (ps.map ofL).length) (hrow : RowSl W a ((ps.map ofL).map strV)) (h1 : n ≤ c) (hz : (joinA m ps).length ≤ 140737488355328) (hps : ps.length ≤ 100000) :
    Calls Tryz.prog 48 #[.slice a n c, .string ⟨#[m]⟩] W fun e w' => e = .returned (.string (ofL (joinA m ps))) ∧ Below W.heap.size W w' := by
  subst hn
  have hj : Lib.join ((ps.map ofL).map (·.data.toList)) (⟨#[m]⟩ : ByteArray).data.toList = joinA m ps := by
    rw [map_ofL]
    exact joinA_lib m ps
  have hl : (ps.map ofL).length = ps.length := List.length_map _
  by_cases h0 : 0 < (ps.map ofL).length
  · obtain ⟨g, rfl, hg, hc⟩ := hrow.strs h0
    have := Tryz.strings_Join g 0 c (ps.map ofL) ⟨#[m]⟩ W (fun j x hj => by
      have hj' := (List.getElem?_eq_some_iff.1 hj).1
      rw [hc j hj']
      simp only [List.getD, hj, Option.getD_some]) hg (by omega) h1 (by rw [hj]; exact hz)
    rw [hj] at this
    exact this
  · have hnil : ps = [] := List.eq_nil_of_length_eq_zero (by omega)
    subst hnil
    refine (Tryz.strings_Join_none a c ⟨#[m]⟩ W).mono ?_
    rintro e w' ⟨rfl, rfl⟩
    exact ⟨rfl, Below.refl _ _⟩
end Go.Proofs.YtbonnmkkacplgaaGreatDoor

/- fold.Fields: the parts of a text between marks. -/
namespace Go.Proofs.YtbonnmkkacplgaaGreatDoor
open Go.RowKit

theorem info_string : (Tryz.prog.info? 9).map (fun i => (i.zero, i.size, i.bytes)) = some (some (.string ByteArray.empty), 1, 16) := by kernel_rfl

/-- What has been collected after k bytes, and where the part that is open begins. -/
def cutAt (s : ByteArray) (mark : UInt8) : Nat → List ByteArray × Nat
  | 0 => ([], 0)
  | k + 1 => if byteAt s k = mark then ((cutAt s mark k).1 ++ [s.extract (cutAt s mark k).2 k], k + 1) else cutAt s mark k

theorem cutAt_le (s : ByteArray) (mark : UInt8) (k : Nat) : (cutAt s mark k).1.length ≤ k ∧ (cutAt s mark k).2 ≤ k := by
  induction k with
  | zero => simp [cutAt]
  | succ k ih =>
    unfold cutAt
    split
    · simp; omega
    · omega

theorem cutAt_mono (s : ByteArray) (mark : UInt8) {j k : Nat} (h : j ≤ k) : (cutAt s mark j).1.length ≤ (cutAt s mark k).1.length := by
  induction h with
  | refl => exact Nat.le_refl _
  | step _ ih =>
    refine Nat.le_trans ih ?_
    rw [cutAt]
    split
    · simp
    · exact Nat.le_refl _

def FieldsPost (s : ByteArray) (mark : UInt8) (most : Int) (w : World) (e : Ending) (w' : World) : Prop :=
  Below w.heap.size w w' ∧
  ((∃ v, e = .returned (.tuple #[v, .nilIface]) ∧ ((cutAt s mark s.size).1.length : Int) < most ∧
      w'.ownsRow w.heap.size 9 1 v ((cutAt s mark s.size).1.length + 1) (((cutAt s mark s.size).1 ++ [s.extract (cutAt s mark s.size).2 s.size]).map strV)) ∨
   (∃ (i : Nat) (v : Value), e = .returned (.tuple #[.slice none 0 0, v]) ∧ i < s.size ∧ byteAt s i = mark ∧ ((cutAt s mark (i + 1)).1.length : Int) = most ∧ IsFault w' v 15 i))

set_option maxHeartbeats 1600000 in
set_option maxRecDepth 100000 in
theorem fold_Fields (s : ByteArray) (mark : UInt8) (most : Int) (w : World) (hs : s.size ≤ 16777216) (hm : 1 ≤ most) (hm2 : most ≤ 9223372036854775807) :
    Calls Tryz.prog 46 #[.string s, .int .u8 (mark.toNat : Int), .int .i64 most] w (FieldsPost s mark most w) := by
  obtain ⟨i0, hi, hz0, hz1, hz2⟩ := info_parts info_string
  go_enter Tryz.func46, Tryz.ntmps46
  go_wp2_with ((with_reducible refine wpList_bytes (o := ⟨some 16, _, _, _, _, _⟩) rfl 9 32 5 _ rfl s rfl Tryz.underlying9 Tryz.underlying32 Tryz.underlying5 ?_); intro cap w1 hcap hB hb1 hsz1)
  have hcnt := cutAt_le s mark
  go_loopw [8, 9, 18] (fun v f i wr => ∃ k : Nat, k ≤ s.size ∧ i = .int .i64 k ∧ f = .int .i64 (cutAt s mark k).2 ∧ ((cutAt s mark k).1.length : Int) < most ∧
      wr.ownsRow (w.heap.size + 1) 9 1 v (cutAt s mark k).1.length ((cutAt s mark k).1.map strV) ∧ BytesAt wr w.heap.size s.data.toList ∧ Below w.heap.size w wr ∧ w.heap.size < wr.heap.size)
    (fun _ _ i _ => s.size - (intOf i).toNat)
  case atStart => exact ⟨0, Nat.zero_le _, rfl, rfl, by simp [cutAt]; omega, World.ownsRow_nil _ _ _ _, hB, hb1, by omega⟩
  case round =>
    obtain ⟨k, hk, rfl, rfl, hlen, hown, hBr, hbr, hszr⟩ := hrel
    have hc := hcnt k
    clear hcnt
    have hcell : k < s.size → wr.cell? ⟨w.heap.size, k, none⟩ = some (.int .u8 ((byteAt s k).toNat : Int)) := fun h => hBr.byte h
    by_cases hlt : k < s.size
    · by_cases hmk : byteAt s k = mark
      · have e1 := u8_eq hmk
        have hnx : cutAt s mark (k + 1) = ((cutAt s mark k).1 ++ [s.extract (cutAt s mark k).2 k], k + 1) := by rw [cutAt, if_pos hmk]
        have HNX := Lib.hid hnx
        have hmk' := Lib.hid hmk
        clear hnx hmk
        go_wp2_with (at_builtin; refine wpList_append_own _ rfl _ _ 38 rfl (w.heap.size + 1) 9 i0 (.string ByteArray.empty) 1 16 Tryz.underlying38 hi hz0 hz1 hz2 rfl (by decide) _ _ _ rfl (hown.alloc _) ⟨wr.heap.size, 0, none⟩ 1 1 [strV (s.extract (cutAt s mark k).2 k)] rfl rfl ?c1 ?c2 ?c3 ?c4 ?c5 ?_)
        case c1 =>
          intro j u hj
          match j, hj with
          | 0, hj => simp at hj; subst hj; simp [Addr.add, strV]
        case c2 => intro u hu; simp at hu; subst hu; rfl
        case c3 => unfold maxLen; omega
        case c4 => omega
        case c5 => simp; omega
        intro v1 w2 hown1 hg1 _
        have hlt2 := hown.lt
        obtain ⟨g, c2, rfl, hgB, hgl⟩ := ownsRow_form hown1 (by omega)
        have hbr2 : Below w.heap.size w w2 := (hbr.alloc (Nat.le_of_lt hszr) _).grown hg1 (by simp; omega) (fun j hj => by have := (hlt2 j hj).1; omega)
        have hB2 : BytesAt w2 w.heap.size s.data.toList := (hBr.alloc _).grown hg1 (fun h => by have := (hlt2 _ h.symm).1; omega)
        have hs2 : w.heap.size < w2.heap.size := by have := hbr2.size; omega
        clear hg1 hlt2 hown hBr hbr hcell
        by_cases hmo : most ≤ ((cutAt s mark k).1.length : Int) + 1
        · go_wp2_with fail
          refine (api_Fail' _ _ _).mono ?_
          rintro e w3 ⟨v, rfl, hv, hb3⟩
          go_wp2_with fail
          go_ret2
          exact ⟨hbr2.trans (hb3.mono hbr2.size), .inr ⟨k, v, rfl, hlt, hmk'.out, by rw [HNX.out]; simp; omega, hv⟩⟩
        · go_wp2_with fail
          go_roundw
          case rel => exact ⟨k + 1, by omega, by go_num, by rw [HNX.out]; go_num, by rw [HNX.out]; simp; omega, by rw [HNX.out]; simpa using hown1, hB2, hbr2, hs2⟩
          case measure => simp [intOf]; omega
      · have e1 := u8_ne hmk
        have hnx : cutAt s mark (k + 1) = cutAt s mark k := by rw [cutAt, if_neg hmk]
        have HNX := Lib.hid hnx
        clear hnx hmk
        go_wp2_with fail
        go_roundw
        case rel => exact ⟨k + 1, by omega, by go_num, by rw [HNX.out], by rw [HNX.out]; exact hlen, by rw [HNX.out]; exact hown, hBr, hbr, hszr⟩
        case measure => simp [intOf]; omega
    · obtain rfl : k = s.size := by omega
      have hlt2 := hown.lt
      go_wp2_with (at_builtin; refine wpList_append_own _ rfl _ _ 38 rfl (w.heap.size + 1) 9 i0 (.string ByteArray.empty) 1 16 Tryz.underlying38 hi hz0 hz1 hz2 rfl (by decide) _ _ _ rfl (hown.alloc _) ⟨wr.heap.size, 0, none⟩ 1 1 [strV (s.extract (cutAt s mark s.size).2 s.size)] rfl rfl ?c1 ?c2 ?c3 ?c4 ?c5 ?_)
      case c1 =>
        intro j u hj
        match j, hj with
        | 0, hj => simp at hj; subst hj; simp [Addr.add, strV]
      case c2 => intro u hu; simp at hu; subst hu; rfl
      case c3 => unfold maxLen; omega
      case c4 => omega
      case c5 => simp; omega
      intro v1 w2 hown1 hg1 _
      have hbr2 : Below w.heap.size w w2 := (hbr.alloc (Nat.le_of_lt hszr) _).grown hg1 (by simp; omega) (fun j hj => by have := (hlt2 j hj).1; omega)
      clear hg1 hlt2 hown hBr hbr hcell
      go_wp2_with fail
      go_ret2
      exact ⟨hbr2, .inl ⟨v1, rfl, hlen, ownsRow_base (by simpa using hown1) (by omega)⟩⟩

set_option maxHeartbeats 400000 in
theorem fold_Fields_arg (s : ByteArray) (mark : UInt8) (most : Int) (w : World) (hm : most < 1) :
    Calls Tryz.prog 46 #[.string s, .int .u8 (mark.toNat : Int), .int .i64 most] w fun e w' => ∃ v, e = .returned (.tuple #[.slice none 0 0, v]) ∧ IsFault w' v 1 0 ∧ Below w.heap.size w w' := by
  go_enter Tryz.func46, Tryz.ntmps46
  go_wp2_with fail
  refine (api_Fail' _ _ _).mono ?_
  rintro e w3 ⟨v, rfl, hv, hb3⟩
  go_wp2_with fail
  go_ret2
  exact ⟨v, rfl, hv, hb3⟩
end Go.Proofs.YtbonnmkkacplgaaGreatDoor

/- The parts between marks, told from place to place, are those of the list that is cut. -/
namespace Go.Proofs.YtbonnmkkacplgaaGreatDoor

theorem ext_ofL (l : List UInt8) (i j : Nat) : (ofL l).extract i j = ofL ((l.drop i).take (j - i)) := by
  apply ByteArray.ext
  apply Array.ext'
  rw [Lib.extract_data]
  simp [ofL]
theorem ext_list (s : ByteArray) (i j : Nat) : s.extract i j = ofL ((s.data.toList.drop i).take (j - i)) := by
  conv => lhs; rw [← ofL_list s]
  exact ext_ofL _ i j
theorem cutAt_split (s : ByteArray) (c : UInt8) : ∀ k, k ≤ s.size → (cutAt s c k).2 ≤ k ∧ (∀ j, (cutAt s c k).2 ≤ j → j < k → byteAt s j ≠ c) ∧
    (splitL c s.data.toList).map ofL = (cutAt s c k).1 ++ (splitL c (s.data.toList.drop (cutAt s c k).2)).map ofL := by
  intro k
  have hl : s.data.toList.length = s.size := rfl
  induction k with
  | zero => intro _; simp [cutAt]
  | succ k ih =>
    intro hk
    obtain ⟨h1, h2, h3⟩ := ih (by omega)
    rw [cutAt]
    by_cases hc : byteAt s k = c
    · rw [if_pos hc]
      refine ⟨Nat.le_refl _, fun j hj1 hj2 => by simp only at hj1; omega, ?_⟩
      generalize (cutAt s c k).2 = a at *
      have e : s.data.toList.drop a = (s.data.toList.drop a).take (k - a) ++ c :: s.data.toList.drop (k + 1) := by
        have e1 : s.data.toList.drop a = (s.data.toList.drop a).take (k - a) ++ (s.data.toList.drop a).drop (k - a) := (List.take_append_drop _ _).symm
        rw [List.drop_drop, show a + (k - a) = k by omega, List.drop_eq_getElem_cons (i := k) (by omega)] at e1
        rw [e1]
        congr 2
        unfold byteAt at hc
        rw [List.getD, List.getElem?_eq_getElem (by omega)] at hc
        exact hc
      have hno : ∀ x ∈ (s.data.toList.drop a).take (k - a), x ≠ c := by
        intro x hx
        obtain ⟨i, hi, rfl⟩ := List.mem_iff_getElem.1 hx
        simp only [List.length_take, List.length_drop] at hi
        have := h2 (a + i) (by omega) (by omega)
        unfold byteAt at this
        rw [List.getD, List.getElem?_eq_getElem (by omega)] at this
        simpa using this
      rw [h3, e, splitL_cut c _ _ hno, ext_list]
      simp
    · rw [if_neg hc]
      refine ⟨by omega, fun j hj1 hj2 => ?_, h3⟩
      by_cases hjk : j = k
      · subst hjk; exact hc
      · exact h2 j hj1 (by omega)
theorem fields_split (s : ByteArray) (c : UInt8) : (cutAt s c s.size).1 ++ [s.extract (cutAt s c s.size).2 s.size] = (splitL c s.data.toList).map ofL := by
  have hl : s.data.toList.length = s.size := rfl
  obtain ⟨h1, h2, h3⟩ := cutAt_split s c s.size (Nat.le_refl _)
  rw [h3]
  have hno : ∀ x ∈ s.data.toList.drop (cutAt s c s.size).2, x ≠ c := by
    intro x hx
    obtain ⟨i, hi, rfl⟩ := List.mem_iff_getElem.1 hx
    simp only [List.length_drop] at hi
    have := h2 ((cutAt s c s.size).2 + i) (by omega) (by omega)
    unfold byteAt at this
    rw [List.getD, List.getElem?_eq_getElem (by omega)] at this
    simpa using this
  rw [splitL_none c _ hno, ext_list, List.take_of_length_le (by simp)]
  simp
end Go.Proofs.YtbonnmkkacplgaaGreatDoor

/- strings.TrimSuffix at a point, strings.LastIndexByte; quad.cut, and the reference's. -/
namespace Go.Proofs.YtbonnmkkacplgaaGreatDoor
open Go.RowKit

theorem byteAt_idx {s : ByteArray} {i : Nat} (h : i < s.size) : s[i] = byteAt s i := by simp [byteAt, List.getD, h]; rfl
theorem last_point {s : ByteArray} {n : Nat} (h : s.size = n + 1) : ((s.extract n s.size).toList == [46]) = decide (byteAt s n = 46) := by
  have e0 : ([46] : List UInt8) = (⟨#[46]⟩ : ByteArray).toList := by rw [ByteArray.toList_eq]
  rw [e0, str_eqB, h, extract_one (by omega), show (⟨#[46]⟩ : ByteArray) = ofL [46] from rfl]
  by_cases hb : byteAt s n = 46
  · rw [hb]; simp
  · rw [decide_eq_false hb, decide_eq_false]
    intro e
    have := congrArg (fun x => x.data.toList) e
    simp [ofL] at this
    exact hb this
set_option maxHeartbeats 800000 in
theorem has_suffix (s : ByteArray) (n : Nat) (h : s.size = n + 1) (hs : s.size ≤ 16777216) (w : World) : Calls Tryz.prog 83 #[.string s, .string ⟨#[46]⟩] w fun e w' => e = .returned (.bool (decide (byteAt s n = 46))) ∧ w = w' := by
  have hl := last_point h
  have h1 : ¬ (s.size : Int) < 1 := by omega
  have h2 : ((s.size : Int) - 1).toNat = n := by omega
  have h3 : (1 : Int) ≤ (s.size : Int) := by omega
  clear h
  go_enter Tryz.func83, Tryz.ntmps83
  go_wp2_with fail
  go_ret
  exact ⟨rfl, rfl⟩
set_option maxHeartbeats 800000 in
theorem sl_trim (s : ByteArray) (n : Nat) (h : s.size = n + 1) (hs : s.size ≤ 16777216) (w : World) : Calls Tryz.prog 77 #[.string s, .string ⟨#[46]⟩] w fun e w' => e = .returned (.string (if byteAt s n = 46 then s.extract 0 n else s)) ∧ w = w' := by
  have c1 := Lib.hid (fun W => has_suffix s n h hs W)
  have h2 : ((s.size : Int) - 1).toNat = n := by omega
  have h3 : (1 : Int) ≤ (s.size : Int) := by omega
  clear h
  by_cases hb : byteAt s n = 46
  · rw [if_pos hb]
    rw [decide_eq_true hb] at c1
    clear hb
    go_enter Tryz.func77, Tryz.ntmps77
    go_wp2_with fail
    refine (c1.out _).mono ?_
    rintro e w2 ⟨rfl, rfl⟩
    go_wp2_with fail
    go_ret
    exact ⟨rfl, rfl⟩
  · rw [if_neg hb]
    rw [decide_eq_false hb] at c1
    clear hb
    go_enter Tryz.func77, Tryz.ntmps77
    go_wp2_with fail
    refine (c1.out _).mono ?_
    rintro e w2 ⟨rfl, rfl⟩
    go_wp2_with fail
    go_ret
    exact ⟨rfl, rfl⟩
theorem str_trim (s : ByteArray) (n : Nat) (h : s.size = n + 1) (hs : s.size ≤ 16777216) (w : World) : Calls Tryz.prog 45 #[.string s, .string ⟨#[46]⟩] w fun e w' => e = .returned (.string (if byteAt s n = 46 then s.extract 0 n else s)) ∧ w = w' := by
  have c1 := Lib.hid (fun W => sl_trim s n h hs W)
  clear h
  generalize (if byteAt s n = 46 then s.extract 0 n else s) = r at *
  go_enter Tryz.func45, Tryz.ntmps45
  go_wp2_with fail
  refine (c1.out _).mono ?_
  rintro e w2 ⟨rfl, rfl⟩
  go_wp2_with fail
  go_ret
  exact ⟨rfl, rfl⟩
/-- A text without a point at its end. -/
def cutP (s : ByteArray) : ByteArray := if 1 < s.size ∧ byteAt s (s.size - 1) = 46 then s.extract 0 (s.size - 1) else s
theorem cutP_long {s : ByteArray} {n : Nat} (h : s.size = n + 1) (h1 : 1 < s.size) : (if byteAt s n = 46 then s.extract 0 n else s) = cutP s := by
  unfold cutP
  rw [show s.size - 1 = n by omega]
  by_cases hb : byteAt s n = 46
  · rw [if_pos hb, if_pos ⟨h1, hb⟩]
  · rw [if_neg hb, if_neg (fun h => hb h.2)]
theorem cutP_short {s : ByteArray} (h1 : ¬ 1 < s.size) : cutP s = s := by unfold cutP; rw [if_neg (fun h => h1 h.1)]
theorem cutP_size (s : ByteArray) : (cutP s).size ≤ s.size := by
  unfold cutP
  split
  · rw [ByteArray.size_extract]; omega
  · exact Nat.le_refl _
end Go.Proofs.YtbonnmkkacplgaaGreatDoor

/- Names of labels, in plain words. -/
namespace Go.Proofs.YtbonnmkkacplgaaGreatDoor
open Go.RowKit

theorem chrs_place (s : ByteArray) (i : Nat) (h : (chrs s).2 = some i) : i < s.size := by
  have : ∀ f j, (chrsFrom s f j).2 = some i → i < s.size := by
    intro f
    induction f with
    | zero => intro j h; simp [chrsFrom] at h
    | succ f ih =>
      intro j h
      unfold chrsFrom at h
      split at h
      · split at h
        · exact ih _ h
        · simp at h; omega
      · simp at h
  exact this _ _ h
theorem badC_place : ∀ (l : List Nat) (a i : Nat), badC l a = some i → i ≤ a + 4 * l.length := by
  intro l
  induction l with
  | nil => intro a i h; cases h
  | cons c l ih =>
    intro a i h
    cases hm : mayB c with
    | true =>
      rw [badC_next hm] at h
      have h1 := ih _ _ h
      have h2 := putN_len c
      rw [putL_len] at h1
      simp only [List.length_cons]
      omega
    | false =>
      rw [badC_hit hm] at h
      cases h
      omega
theorem rightL_place (s : ByteArray) : (rightL s).2 ≤ s.size + 63 := by
  by_cases h0 : s.size = 0
  · rw [rightL_empty h0]; exact Nat.zero_le _
  by_cases h1 : 63 < s.size
  · rw [rightL_long h0 h1]; show 63 ≤ _; omega
  cases hb : badAt s s.size 0 with
  | some i =>
    rw [rightL_bad h0 h1 hb]
    have := badAt_lt s _ _ _ hb
    show i ≤ _
    omega
  | none =>
    rw [rightL_fine h0 h1 hb]
    split <;> exact Nat.zero_le _
theorem rightL_size {s : ByteArray} (h : (rightL s).1 = 0) : s.size ≤ 63 := by
  apply Nat.le_of_not_lt
  intro h1
  rw [rightL_long (by omega) h1] at h
  cases h
theorem asciiW_place {l : List Nat} {k i : Nat} (h : asciiW l = .error (k, i)) : i ≤ 4 * l.length + 63 := by
  cases hb : badC l 0 with
  | some j =>
    rw [asciiW_bad hb] at h
    cases h
    have := badC_place _ _ _ hb
    omega
  | none =>
    cases hm : marksL l with
    | false => rw [asciiW_marks hb hm] at h; cases h; exact Nat.zero_le _
    | true =>
      by_cases hl : 256 < l.length ∨ 59 < (encN l).length
      · rw [asciiW_long hb hm hl] at h; cases h; omega
      · rw [asciiW_ok hb hm hl] at h; cases h
theorem asciiW_size {l : List Nat} {t : ByteArray} (h : asciiW l = .ok t) : t.size ≤ 63 := by
  cases hb : badC l 0 with
  | some j => rw [asciiW_bad hb] at h; cases h
  | none =>
    cases hm : marksL l with
    | false => rw [asciiW_marks hb hm] at h; cases h
    | true =>
      by_cases hl : 256 < l.length ∨ 59 < (encN l).length
      · rw [asciiW_long hb hm hl] at h; cases h
      · rw [asciiW_ok hb hm hl] at h
        cases h
        show (xnL ++ encN l).toArray.size ≤ 63
        simp [xnL]
        omega
theorem asciiL_place {s : ByteArray} {k i : Nat} (h : asciiL s = .error (k, i)) : i ≤ 4 * s.size + 63 := by
  have hls := lowerS_size s
  cases hc : (chrs s).2 with
  | some j =>
    rw [asciiL_utf hc] at h
    cases h
    have := chrs_place s _ hc
    omega
  | none =>
    cases hw : wideL (chrs s).1 with
    | true =>
      rw [asciiL_wide hc hw] at h
      have h1 := asciiW_place h
      have h2 := lowC_len (lowerS s)
      omega
    | false =>
      by_cases h0 : (rightL (lowerS s)).1 = 0
      · rw [asciiL_low hc hw h0] at h; cases h
      · rw [asciiL_err hc hw h0] at h
        have h1 := rightL_place (lowerS s)
        have h2 : rightL (lowerS s) = (k, i) := by injection h
        rw [h2] at h1
        dsimp only at h1
        omega
theorem asciiL_size {s t : ByteArray} (h : asciiL s = .ok t) : t.size ≤ 63 := by
  cases hc : (chrs s).2 with
  | some j => rw [asciiL_utf hc] at h; cases h
  | none =>
    cases hw : wideL (chrs s).1 with
    | true => rw [asciiL_wide hc hw] at h; exact asciiW_size h
    | false =>
      by_cases h0 : (rightL (lowerS s)).1 = 0
      · rw [asciiL_low hc hw h0] at h; cases h; exact rightL_size h0
      · rw [asciiL_err hc hw h0] at h; cases h
/-- The labels' forms, one behind the other; or the first error, at its place. -/
def nameF : List ByteArray → Nat → Except (Nat × Nat) (List ByteArray)
  | [], _ => .ok []
  | p :: ps, a => match asciiL p with
    | .error e => .error (e.1, a + e.2)
    | .ok x => match nameF ps (a + p.size + 1) with
      | .error e => .error e
      | .ok xs => .ok (x :: xs)
def aheadF (xs : List ByteArray) : Except (Nat × Nat) (List ByteArray) → Except (Nat × Nat) (List ByteArray)
  | .error e => .error e
  | .ok ys => .ok (xs ++ ys)
theorem nameF_err {p : ByteArray} {ps : List ByteArray} {a k i : Nat} (h : asciiL p = .error (k, i)) : nameF (p :: ps) a = .error (k, a + i) := by rw [nameF, h]
theorem nameF_ok {p x : ByteArray} {ps : List ByteArray} {a : Nat} (h : asciiL p = .ok x) : nameF (p :: ps) a = aheadF [x] (nameF ps (a + p.size + 1)) := by
  rw [nameF, h]
  dsimp only
  cases nameF ps (a + p.size + 1) <;> rfl
theorem ahead_ahead (xs ys : List ByteArray) (r : Except (Nat × Nat) (List ByteArray)) : aheadF xs (aheadF ys r) = aheadF (xs ++ ys) r := by
  cases r with
  | error e => rfl
  | ok zs => simp [aheadF]
theorem ahead_nil (r : Except (Nat × Nat) (List ByteArray)) : aheadF [] r = r := by cases r <;> rfl
/-- A text's labels, where there aren't too many. -/
def fieldsB (s : ByteArray) : List ByteArray := (cutAt s 46 s.size).1 ++ [s.extract (cutAt s 46 s.size).2 s.size]
theorem fieldsB_sizes (s : ByteArray) : ∀ p ∈ fieldsB s, p.size ≤ s.size := by
  intro p hp
  unfold fieldsB at hp
  rw [fields_split] at hp
  obtain ⟨l, hl, rfl⟩ := List.mem_map.1 hp
  have h := splitL_len 46 _ s.data.toList (Nat.le_refl _)
  have hs : s.data.toList.length = s.size := rfl
  have h2 : l.length ≤ ((splitL 46 s.data.toList).map List.length).sum := by
    have : ∀ (ls : List (List UInt8)), l ∈ ls → l.length ≤ (ls.map List.length).sum := by
      intro ls
      induction ls with
      | nil => intro h; cases h
      | cons x ls ih =>
        intro h
        simp only [List.map_cons, List.sum_cons]
        rcases List.mem_cons.1 h with rfl | h
        · omega
        · have := ih h; omega
    exact this _ hl
  have h3 : 1 ≤ (splitL 46 s.data.toList).length := by
    have := splitL_ne 46 s.data.toList
    cases hh : splitL 46 s.data.toList with
    | nil => exact absurd hh this
    | cons a b => simp
  show (ofL l).size ≤ _
  rw [show (ofL l).size = l.length by show l.toArray.size = _; simp]
  omega
theorem fieldsB_len (s : ByteArray) : (fieldsB s).length = (cutAt s 46 s.size).1.length + 1 := by unfold fieldsB; simp
def joinP (xs : List ByteArray) : ByteArray := ofL (joinA 46 (xs.map (·.data.toList)))
end Go.Proofs.YtbonnmkkacplgaaGreatDoor
