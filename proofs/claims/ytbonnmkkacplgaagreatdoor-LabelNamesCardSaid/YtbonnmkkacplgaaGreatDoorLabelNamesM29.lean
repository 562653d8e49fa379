/- Plain facts: a text without blanks around it. -/
import Derived.Test.YtbonnmkkacplgaaGreatDoorLabelNamesM11
import Derived.Lib.SlTrimSet
import Derived.Test.YtbonnmkkacplgaaGreatDoorLabelNamesM16
import Derived.Test.YtbonnmkkacplgaaGreatDoorLabelNamesM28

namespace Go.Proofs.YtbonnmkkacplgaaGreatDoor
open Go.RowKit

def blanks : ByteArray := ⟨#[32, 9, 10, 13]⟩
theorem blanks_has (c : UInt8) : ([32, 9, 10, 13] : List UInt8).contains c = hasB blanks c := by
  have : ∀ n : Fin 256, ([32, 9, 10, 13] : List UInt8).contains (UInt8.ofNat n.1) = hasB blanks (UInt8.ofNat n.1) := by decide +kernel
  have h := this ⟨c.toNat, c.toNat_lt⟩
  simpa using h
/-- A text without blanks around it. -/
def trimS (s : ByteArray) : ByteArray := ⟨(Lib.trimS s.data.toList [32, 9, 10, 13]).toArray⟩

theorem at_byte {s : ByteArray} {j : Nat} {b : UInt8} (h : s.data.toList[j]? = some b) : j < s.size ∧ byteAt s j = b := by
  have hl : s.data.toList.length = s.size := rfl
  have hlt := (List.getElem?_eq_some_iff.1 h).1
  refine ⟨by omega, ?_⟩
  unfold byteAt
  rw [List.getD, h]; rfl

theorem trim_is {s : ByteArray} {a b : Nat} (hab : a ≤ b) (hb : b ≤ s.size) (h1 : ∀ j, j < a → hasB blanks (byteAt s j) = true) (h2 : ∀ j, b ≤ j → j < s.size → hasB blanks (byteAt s j) = true)
    (h3 : a < b → hasB blanks (byteAt s a) = false) (h4 : a < b → hasB blanks (byteAt s (b - 1)) = false) : trimS s = s.extract a b := by
  have hl : s.data.toList.length = s.size := rfl
  unfold trimS Lib.trimS
  rw [Lib.extract_eq]
  by_cases hlt : a < b
  · rw [Lib.trimRightS_take _ _ b (by omega) (fun j c hj hc => by
      obtain ⟨h5, h6⟩ := at_byte hc
      rw [blanks_has, ← h6]; exact h2 j hj h5) (fun c _ hc => by
      obtain ⟨h5, h6⟩ := at_byte hc
      rw [blanks_has, ← h6]; exact h4 hlt)]
    rw [Lib.trimLeftS_drop _ _ a (by simp; omega) (fun j c hj hc => by
      rw [List.getElem?_take, if_pos (by omega)] at hc
      obtain ⟨h5, h6⟩ := at_byte hc
      rw [blanks_has, ← h6]; exact h1 j hj) (fun c hc => by
      rw [List.getElem?_take, if_pos hlt] at hc
      obtain ⟨h5, h6⟩ := at_byte hc
      rw [blanks_has, ← h6]; exact h3 hlt)]
    rw [List.drop_take]
  · obtain rfl : a = b := by omega
    rw [Lib.trimRightS_take _ _ 0 (Nat.zero_le _) (fun j c hj hc => by
      obtain ⟨h5, h6⟩ := at_byte hc
      rw [blanks_has, ← h6]
      by_cases hja : j < a
      · exact h1 j hja
      · exact h2 j (by omega) h5) (fun c h0 _ => absurd h0 (Nat.lt_irrefl 0))]
    simp [Lib.trimLeftS]
end Go.Proofs.YtbonnmkkacplgaaGreatDoor

/- Plain facts: great letters, blanks around a text. -/
namespace Go.Proofs.YtbonnmkkacplgaaGreatDoor
open Go.RowKit

def greatB (b : UInt8) : UInt8 := if 97 ≤ b.toNat ∧ b.toNat ≤ 122 then b - 32 else b
theorem greatB_nat (b : UInt8) (h1 : 97 ≤ b.toNat) (h2 : b.toNat ≤ 122) : (greatB b).toNat = b.toNat - 32 := by
  unfold greatB
  rw [if_pos ⟨h1, h2⟩]
  rw [UInt8.toNat_sub_of_le _ _ (by rw [UInt8.le_iff_toNat_le]; show 32 ≤ _; omega)]
  rfl
theorem low_great (b : UInt8) : lowerB (greatB b) = lowerB b := by
  have : ∀ n : Fin 256, lowerB (greatB (UInt8.ofNat n.1)) = lowerB (UInt8.ofNat n.1) := by decide +kernel
  have h := this ⟨b.toNat, b.toNat_lt⟩
  simpa using h
def greatL (l : List UInt8) : List UInt8 := l.map greatB
def greatS (s : ByteArray) : ByteArray := ⟨(greatL s.data.toList).toArray⟩
theorem greatS_size (s : ByteArray) : (greatS s).size = s.size := by
  show (greatL s.data.toList).toArray.size = s.data.toList.length
  simp [greatL]
theorem lowerS_great (s : ByteArray) : lowerS (greatS s) = lowerS s := by
  unfold lowerS lowerL greatS greatL
  apply ByteArray.ext
  apply Array.ext'
  show (s.data.toList.map greatB).map lowerB = s.data.toList.map lowerB
  rw [List.map_map]
  exact List.map_congr_left fun x _ => low_great x
/-- So far great letters. -/
def greatTo (s : ByteArray) (i : Nat) : List UInt8 := greatL (s.data.toList.take i) ++ s.data.toList.drop i
theorem greatTo_len (s : ByteArray) (i : Nat) : (greatTo s i).length = s.size := by
  have hl : s.data.toList.length = s.size := rfl
  simp [greatTo, greatL]; omega
theorem greatTo_zero (s : ByteArray) : greatTo s 0 = s.data.toList := by simp [greatTo, greatL]
theorem greatTo_all (s : ByteArray) : greatTo s s.size = (greatS s).data.toList := by
  have hl : s.data.toList.length = s.size := rfl
  show greatL (s.data.toList.take s.size) ++ s.data.toList.drop s.size = greatL s.data.toList
  rw [List.take_of_length_le (by omega), List.drop_eq_nil_of_le (by omega), List.append_nil]
theorem greatTo_at {s : ByteArray} {i : Nat} (hi : i < s.size) : (greatTo s i).getD i 0 = byteAt s i := by
  have hl : s.data.toList.length = s.size := rfl
  have h1 : (greatL (s.data.toList.take i)).length = i := by simp [greatL]; omega
  unfold greatTo byteAt
  simp only [List.getD, List.getElem?_append, h1, Nat.lt_irrefl, if_false, Nat.sub_self, List.getElem?_drop, Nat.add_zero]
theorem greatTo_set {s : ByteArray} {i : Nat} (hi : i < s.size) : (greatTo s i).set i (greatB (byteAt s i)) = greatTo s (i + 1) := by
  have hl : s.data.toList.length = s.size := rfl
  have hlt : i < s.data.toList.length := by omega
  have h1 : (greatL (s.data.toList.take i)).length = i := by simp [greatL]; omega
  have hb : byteAt s i = s.data.toList[i] := by unfold byteAt; rw [List.getD, List.getElem?_eq_getElem hlt]; rfl
  unfold greatTo
  rw [List.set_append_right _ _ (by rw [h1]; exact Nat.le_refl _), h1, Nat.sub_self, List.drop_eq_getElem_cons hlt, List.set_cons_zero, List.take_succ_eq_append_getElem hlt, hb]
  simp [greatL]
theorem greatTo_keep {s : ByteArray} {i : Nat} (hi : i < s.size) (h : greatB (byteAt s i) = byteAt s i) : greatTo s (i + 1) = greatTo s i := by
  rw [← greatTo_set hi, h]
  have h2 := greatTo_at hi
  have hll : i < (greatTo s i).length := by rw [greatTo_len]; exact hi
  apply List.ext_getElem?
  intro j
  rw [List.getElem?_set]
  split
  · rename_i e
    subst e
    rw [← h2, List.getD, List.getElem?_eq_getElem hll]; rfl
  · rfl

theorem dropWhile_pre (p : UInt8 → Bool) (a b : List UInt8) (h : ∀ x ∈ a, p x = true) : (a ++ b).dropWhile p = b.dropWhile p := by
  induction a with
  | nil => rfl
  | cons x a ih =>
    rw [List.cons_append, List.dropWhile_cons_of_pos (h x (by simp))]
    exact ih fun y hy => h y (by simp [hy])
theorem dropWhile_post (p : UInt8 → Bool) (a b : List UInt8) (h : ∀ x ∈ b, p x = true) : (a ++ b).dropWhile p = if a.dropWhile p = [] then [] else a.dropWhile p ++ b := by
  rw [List.dropWhile_append]
  by_cases he : a.dropWhile p = []
  · rw [if_pos (by rw [he]; rfl), if_pos he]
    have := dropWhile_pre p b [] h
    simpa using this
  · rw [if_neg (by rw [List.isEmpty_iff]; exact he), if_neg he]
theorem trim_around (cs p l : List UInt8) (h : ∀ x ∈ p, cs.contains x = true) : Lib.trimS (p ++ l ++ p) cs = Lib.trimS l cs := by
  unfold Lib.trimS Lib.trimLeftS Lib.trimRightS
  rw [List.reverse_append, List.reverse_append, dropWhile_pre _ _ _ (fun x hx => h x (by simpa using hx)), dropWhile_post _ _ _ (fun x hx => h x (by simpa using hx))]
  split
  · rename_i e
    rw [e]
  · rw [List.reverse_append, List.reverse_reverse, dropWhile_pre _ _ _ h]
theorem trim_all (cs p : List UInt8) (h : ∀ x ∈ p, cs.contains x = true) : Lib.trimS p cs = [] := by
  unfold Lib.trimS Lib.trimRightS
  have := dropWhile_pre (cs.contains ·) p.reverse [] (fun x hx => h x (by simpa using hx))
  rw [List.append_nil] at this
  rw [this]
  rfl
def padS : ByteArray := ⟨#[32, 9, 10, 13, 32, 9, 10, 13]⟩
theorem pad_blank (m : Nat) : ∀ x ∈ (padS.extract 0 m).data.toList, ([32, 9, 10, 13] : List UInt8).contains x = true := by
  intro x hx
  rw [Lib.extract_data] at hx
  have := List.mem_of_mem_drop (List.mem_of_mem_take hx)
  have h8 : ∀ y ∈ padS.data.toList, ([32, 9, 10, 13] : List UInt8).contains y = true := by decide
  exact h8 x this
theorem trim_pad (m : Nat) : trimS (padS.extract 0 m) = ByteArray.empty := by
  unfold trimS
  rw [trim_all _ _ (pad_blank m)]
  rfl
theorem trim_padded (m : Nat) (s : ByteArray) : trimS (padS.extract 0 m ++ s ++ padS.extract 0 m) = trimS s := by
  unfold trimS
  rw [ByteArray.data_append, ByteArray.data_append]
  simp only [Array.toList_append]
  rw [trim_around _ _ _ (pad_blank m)]
theorem and7 (n : Nat) (h : n < 256) : bits .and .u8 (n : Int) 7 = ((n % 8 : Nat) : Int) := by
  have : ∀ n : Fin 256, bits .and .u8 (n.1 : Int) 7 = ((n.1 % 8 : Nat) : Int) := by decide +kernel
  exact this ⟨n, h⟩
end Go.Proofs.YtbonnmkkacplgaaGreatDoor

/- A told name with a point at its end, or in great letters, in plain words. -/
namespace Go.Proofs.YtbonnmkkacplgaaGreatDoor
open Go.RowKit

/-- What a name is told as hangs on its labels alone. -/
theorem name_told {s : ByteArray} {ps xs : List ByteArray} {r : Except (Nat × Nat) ByteArray} (h0 : (cutP s).size ≠ 0) (hf : fieldsB (cutP s) = ps) (hn : nameF ps 0 = .ok xs) (hc : ps.length ≤ 127) (hz : (joinP xs).size ≤ 253) (hr : NameIs s r) : r = .ok (joinP xs) := by
  have hl := fieldsB_len (cutP s)
  rw [hf] at hl
  cases hr with
  | empty h1 => exact absurd h1 h0
  | many i h1 h2 h3 h4 =>
    have := cutAt_mono (cutP s) 46 (show i + 1 ≤ (cutP s).size from h2)
    omega
  | bad e h1 h2 h3 => rw [hf, hn] at h3; cases h3
  | long ys h1 h2 h3 h4 =>
    rw [hf, hn] at h3
    obtain rfl := Except.ok.inj h3
    omega
  | ok ys h1 h2 h3 h4 =>
    rw [hf, hn] at h3
    obtain rfl := Except.ok.inj h3
    rfl
theorem cut_dot {t : ByteArray} (h : 0 < t.size) : cutP (t ++ ⟨#[46]⟩) = t := by
  have hz : (t ++ (⟨#[46]⟩ : ByteArray)).size = t.size + 1 := by rw [ByteArray.size_append]; rfl
  have e : (t ++ (⟨#[46]⟩ : ByteArray)).data.toList = t.data.toList ++ [46] := by rw [data_append]
  have hl : t.data.toList.length = t.size := rfl
  have hb : byteAt (t ++ ⟨#[46]⟩) t.size = 46 := by
    have e2 : byteAt (t ++ ⟨#[46]⟩) t.size = (t ++ (⟨#[46]⟩ : ByteArray)).data.toList.getD t.size 0 := rfl
    rw [e2, e, ← hl]
    simp [List.getD]
  unfold cutP
  rw [hz, Nat.add_sub_cancel, if_pos ⟨by omega, hb⟩]
  apply ba_ext
  have e3 : ((t ++ (⟨#[46]⟩ : ByteArray)).extract 0 t.size).data.toList = (t ++ (⟨#[46]⟩ : ByteArray)).data.toList.take t.size := by
    rw [ByteArray.data_extract]
    simp
  rw [e3, e, ← hl, List.take_left]
theorem name_dot {t : ByteArray} {xs : List ByteArray} (h : GoodName t xs) (hz : t.size ≤ 253) {r : Except (Nat × Nat) ByteArray} (hr : NameIs (t ++ ⟨#[46]⟩) r) : r = .ok t := by
  have hp := (name_end h).1
  have hc := cut_dot hp
  have hcount := count_name h
  have := name_told (by rw [hc]; omega) (by rw [hc]; exact fields_name h) (nameF_fix xs 0 h.right) (by omega) (by rw [← h.eq]; exact hz) hr
  rw [this, ← h.eq]
theorem great_sm {b : UInt8} (h : SmB b) : greatB b ≠ 46 ∧ (greatB b).toNat < 128 := by
  have h2 := of_decide_eq_true h
  have hb := b.toNat_lt
  by_cases h1 : 97 ≤ b.toNat ∧ b.toNat ≤ 122
  · have := greatB_nat b h1.1 h1.2
    refine ⟨fun e => ?_, by omega⟩
    rw [e] at this
    have : (46 : UInt8).toNat = 46 := rfl
    omega
  · have e : greatB b = b := by unfold greatB; rw [if_neg h1]
    rw [e]
    exact ⟨sm_dot h, by omega⟩
theorem ascii_great {p : ByteArray} (h : (rightL p).1 = 0) : asciiL (greatS p) = .ok p := by
  have hs := right_bytes h
  have hg : ∀ b ∈ (greatS p).data.toList, b.toNat < 128 := fun b hb => by
    obtain ⟨c, hc, rfl⟩ := List.mem_map.1 (show b ∈ p.data.toList.map greatB from hb)
    exact (great_sm (hs c hc)).2
  have hc := chrs_low hg
  have hlo : lowerS (greatS p) = p := by rw [lowerS_great]; exact lowerS_sm hs
  have hw : wideL (chrs (greatS p)).1 = false := by
    rw [hc]
    cases hw : wideL ((greatS p).data.toList.map UInt8.toNat) with
    | false => rfl
    | true =>
      obtain ⟨c, hc, h128⟩ := List.any_eq_true.1 hw
      obtain ⟨b, hb, rfl⟩ := List.mem_map.1 hc
      have := hg b hb
      have := of_decide_eq_true h128
      omega
  rw [asciiL_low (by rw [hc]) hw (by rw [hlo]; exact h), hlo]
theorem nameF_great : ∀ (xs : List ByteArray) (a : Nat), (∀ p ∈ xs, (rightL p).1 = 0) → nameF (xs.map greatS) a = .ok xs := by
  intro xs
  induction xs with
  | nil => intro a _; rfl
  | cons x xs ih =>
    intro a h
    rw [List.map_cons, nameF_ok (ascii_great (h x (by simp))), ih _ fun p hp => h p (by simp [hp])]
    rfl
theorem great_join : ∀ l : List (List UInt8), greatL (joinA 46 l) = joinA 46 (l.map greatL) := by
  intro l
  induction l with
  | nil => rfl
  | cons p l ih =>
    cases l with
    | nil => rfl
    | cons q r =>
      show greatL (p ++ 46 :: joinA 46 (q :: r)) = greatL p ++ 46 :: joinA 46 ((q :: r).map greatL)
      rw [← ih]
      unfold greatL
      rw [List.map_append, List.map_cons]
      rfl
theorem great_name {t : ByteArray} {xs : List ByteArray} (h : GoodName t xs) : fieldsB (greatS t) = xs.map greatS ∧ cutP (greatS t) = greatS t := by
  have e : (greatS t).data.toList = joinA 46 ((xs.map (·.data.toList)).map greatL) := by
    show greatL t.data.toList = _
    rw [h.eq, joinP_data, great_join]
  constructor
  · unfold fieldsB
    rw [fields_split, e, split_join 46 _ (by intro e; exact h.ne (List.map_eq_nil_iff.1 (List.map_eq_nil_iff.1 e))) fun p hp x hx => by
      obtain ⟨q, hq, rfl⟩ := List.mem_map.1 hp
      obtain ⟨z, hz, rfl⟩ := List.mem_map.1 hq
      obtain ⟨b, hb, rfl⟩ := List.mem_map.1 (show x ∈ z.data.toList.map greatB from hx)
      exact (great_sm (right_bytes (h.right z hz) b hb)).1]
    rw [List.map_map, List.map_map]
    rfl
  · unfold cutP
    rw [if_neg]
    rintro ⟨h1, h2⟩
    have hz := greatS_size t
    have hn := (name_end h).2
    have hl : t.data.toList.length = t.size := rfl
    have hb : byteAt (greatS t) ((greatS t).size - 1) = greatB (byteAt t (t.size - 1)) := by
      rw [hz]
      have e1 : byteAt (greatS t) (t.size - 1) = (t.data.toList.map greatB).getD (t.size - 1) 0 := rfl
      have e2 : byteAt t (t.size - 1) = t.data.toList.getD (t.size - 1) 0 := rfl
      rw [e1, e2]
      simp only [List.getD, List.getElem?_map]
      rw [List.getElem?_eq_getElem (by omega)]
      rfl
    rw [hb] at h2
    have hlast : greatB (byteAt t (t.size - 1)) ≠ 46 := by
      by_cases hr : 97 ≤ (byteAt t (t.size - 1)).toNat ∧ (byteAt t (t.size - 1)).toNat ≤ 122
      · have := greatB_nat _ hr.1 hr.2
        intro e
        rw [e] at this
        have : (46 : UInt8).toNat = 46 := rfl
        omega
      · have e : greatB (byteAt t (t.size - 1)) = byteAt t (t.size - 1) := by unfold greatB; rw [if_neg hr]
        rw [e]
        exact hn
    exact hlast h2
theorem name_great {t : ByteArray} {xs : List ByteArray} (h : GoodName t xs) (hz : t.size ≤ 253) {r : Except (Nat × Nat) ByteArray} (hr : NameIs (greatS t) r) : r = .ok t := by
  obtain ⟨h1, h2⟩ := great_name h
  have hp := (name_end h).1
  have hs := greatS_size t
  have hcount := count_name h
  have := name_told (by rw [h2]; omega) (by rw [h2]; exact h1) (nameF_great xs 0 h.right) (by rw [List.length_map]; omega) (by rw [← h.eq]; exact hz) hr
  rw [this, ← h.eq]
end Go.Proofs.YtbonnmkkacplgaaGreatDoor
