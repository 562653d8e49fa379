/- fold.All. -/
import Derived.Test.YtameipbnobaoeaaDoorHexadMappedM3
import Derived.Test.YtameipbnobaoeaaDoorShelf
import Derived.Lib.IndexLaws
import Derived.Test.YtameipbnobaoeaaDoorHexadMappedM1

namespace Go.Proofs.YtameipbnobaoeaaDoor
open Go.RowKit

/-- Do all bytes of a text stand in another one? -/
def allB (s m : ByteArray) : Bool := (List.range s.size).all fun i => hasB m (byteAt s i)
theorem allB_no {s m : ByteArray} {i : Nat} (hi : i < s.size) (h : hasB m (byteAt s i) = false) : allB s m = false := by
  unfold allB; rw [List.all_eq_false]; exact ⟨i, by simpa using hi, by simpa using h⟩
theorem allB_yes {s m : ByteArray} (h : ∀ i, i < s.size → hasB m (byteAt s i) = true) : allB s m = true := by
  unfold allB; rw [List.all_eq_true]; intro i hi; exact h i (by simpa using hi)
theorem index_has (m : ByteArray) (c : UInt8) : (hasB m c = true ∧ 0 ≤ Lib.indexByte m.data.toList c) ∨ (hasB m c = false ∧ Lib.indexByte m.data.toList c < 0) := by
  have hl : m.data.toList.length = m.size := rfl
  have hge := Lib.indexByte_ge m.data.toList c
  by_cases h : Lib.indexByte m.data.toList c = -1
  · refine .inr ⟨hasB_no fun j hj e => ?_, by omega⟩
    have := Lib.indexByte_none h j
    rw [List.getElem?_eq_getElem (by omega)] at this
    apply this
    rw [← e]
    unfold byteAt
    rw [List.getD, List.getElem?_eq_getElem (by omega)]; rfl
  · obtain ⟨o, ho⟩ := Int.eq_ofNat_of_zero_le (show 0 ≤ Lib.indexByte m.data.toList c by omega)
    have h2 := (Lib.indexByte_some ho).1
    have hlt : o < m.data.toList.length := (List.getElem?_eq_some_iff.1 h2).1
    refine .inl ⟨hasB_yes (k := o) (by omega) ?_, by omega⟩
    unfold byteAt
    rw [List.getD, h2]; rfl

end Go.Proofs.YtameipbnobaoeaaDoor

/- Texts out of lists of bytes. -/
namespace Go.Proofs.YtameipbnobaoeaaDoor
open Go.RowKit

def ofL (l : List UInt8) : ByteArray := ⟨l.toArray⟩
theorem ofL_app (a b : List UInt8) : ofL a ++ ofL b = ofL (a ++ b) := by
  unfold ofL
  apply ByteArray.ext
  apply Array.ext'
  rw [ByteArray.data_append]
  simp
theorem ofL_list (s : ByteArray) : ofL s.data.toList = s := by unfold ofL; rfl
theorem extract_one {s : ByteArray} {i : Nat} (h : i < s.size) : s.extract i (i + 1) = ofL [byteAt s i] := by
  apply ByteArray.ext
  apply Array.ext'
  rw [Lib.extract_data]
  have hl : s.data.toList.length = s.size := rfl
  have : s.data.toList.drop i = s.data.toList[i]'(by omega) :: s.data.toList.drop (i + 1) := List.drop_eq_getElem_cons (by omega)
  rw [this]
  unfold byteAt ofL
  simp [List.getD]
  rw [Array.getElem?_eq_getElem (show i < s.data.size from h)]
  rfl
theorem byte_string (c : UInt8) (w : World) : (convert 55 9 (.slice (some ⟨w.heap.size, 0, none⟩) 1 1)).run Tryd.prog (w.alloc (.cells #[.int .u8 (c.toNat : Int)] 5)) = .ok (.string ⟨#[c]⟩) (w.alloc (.cells #[.int .u8 (c.toNat : Int)] 5)) := by
  have hB : BytesAt (w.alloc (.cells #[.int .u8 (c.toNat : Int)] 5)) w.heap.size [c] := ⟨5, [], 0, 0, .inl (Nat.le_refl _), heap_alloc_new w _⟩
  exact run_back (P := Tryd.prog) _ 55 9 5 w.heap.size 1 [c] Tryd.underlying55 Tryd.underlying5 Tryd.underlying9 hB
theorem ofL_size (l : List UInt8) : (ofL l).size = l.length := by
  show l.toArray.size = _
  simp
end Go.Proofs.YtameipbnobaoeaaDoor

/- Plain: the parts of an address, their digits, their numbers. -/
namespace Go.Proofs.YtameipbnobaoeaaDoor

def hexQ : ByteArray := ⟨#[48, 49, 50, 51, 52, 53, 54, 55, 56, 57, 97, 98, 99, 100, 101, 102, 65, 66, 67, 68, 69, 70]⟩
def octQ : ByteArray := ⟨#[48, 49, 50, 51, 52, 53, 54, 55]⟩
def decQ : ByteArray := ⟨#[48, 49, 50, 51, 52, 53, 54, 55, 56, 57]⟩
def hexedB (s : ByteArray) : Bool := decide (1 < s.size) && (decide (byteAt s 0 = 48) && (decide ((byteAt s 1).toNat = 120) || decide ((byteAt s 1).toNat = 88)))
def octB (s : ByteArray) : Bool := decide (1 < s.size) && decide (byteAt s 0 = 48)
/-- A part's base, how many bytes stand ahead of its digits, among which they are. -/
def formQ (s : ByteArray) : Nat × Nat × ByteArray := if hexedB s = true then (16, 2, hexQ) else if octB s = true then (8, 1, octQ) else (10, 0, decQ)
def digsQ (s : ByteArray) : ByteArray := s.extract (formQ s).2.1 s.size
theorem formQ_hex {s : ByteArray} (h : hexedB s = true) : formQ s = (16, 2, hexQ) := by unfold formQ; rw [if_pos h]
theorem formQ_oct {s : ByteArray} (h : hexedB s = false) (h2 : octB s = true) : formQ s = (8, 1, octQ) := by unfold formQ; rw [if_neg (by simp [h]), if_pos h2]
theorem formQ_dec {s : ByteArray} (h : hexedB s = false) (h2 : octB s = false) : formQ s = (10, 0, decQ) := by unfold formQ; rw [if_neg (by simp [h]), if_neg (by simp [h2])]
theorem hexedB_size {s : ByteArray} (h : hexedB s = true) : 2 ≤ s.size := by unfold hexedB at h; simp at h; omega
theorem octB_size {s : ByteArray} (h : octB s = true) : 2 ≤ s.size := by unfold octB at h; simp at h; omega
/-- The three forms. -/
theorem formQ_three (s : ByteArray) : (hexedB s = true ∧ formQ s = (16, 2, hexQ) ∧ 2 ≤ s.size) ∨ (hexedB s = false ∧ octB s = true ∧ formQ s = (8, 1, octQ) ∧ 2 ≤ s.size) ∨ (hexedB s = false ∧ octB s = false ∧ formQ s = (10, 0, decQ)) := by
  cases h : hexedB s with
  | true => exact .inl ⟨rfl, formQ_hex h, hexedB_size h⟩
  | false =>
    cases h2 : octB s with
    | true => exact .inr (.inl ⟨rfl, rfl, formQ_oct h h2, octB_size h2⟩)
    | false => exact .inr (.inr ⟨rfl, rfl, formQ_dec h h2⟩)
theorem digsQ_size (s : ByteArray) : (formQ s).2.1 + (digsQ s).size = s.size ∨ s.size = 0 := by
  unfold digsQ
  rw [ByteArray.size_extract]
  rcases formQ_three s with ⟨_, h, h2⟩ | ⟨_, _, h, h2⟩ | ⟨_, _, h⟩ <;> rw [h] <;> simp only <;> omega
theorem byte_ext (s : ByteArray) (a k : Nat) (h : a + k < s.size) : byteAt (s.extract a s.size) k = byteAt s (a + k) := by
  unfold byteAt
  rw [Lib.extract_data]
  simp only [List.getD, List.getElem?_take, List.getElem?_drop]
  rw [if_pos (by omega)]
/-- The first byte of a text that is not among others. -/
def firstOut (d m : ByteArray) : Option Nat := (List.range d.size).find? fun i => !hasB m (byteAt d i)
theorem firstOut_some {d m : ByteArray} {i : Nat} (hi : i < d.size) (h : ∀ j, j < i → hasB m (byteAt d j) = true) (hb : hasB m (byteAt d i) = false) : firstOut d m = some i := by
  unfold firstOut
  rw [List.find?_range_eq_some]
  exact ⟨by simp [hb], List.mem_range.2 hi, fun j hj => by simp [h j hj]⟩
theorem firstOut_none {d m : ByteArray} (h : ∀ j, j < d.size → hasB m (byteAt d j) = true) : firstOut d m = none := by
  unfold firstOut
  rw [List.find?_range_eq_none]
  exact fun j hj => by simp [h j hj]
theorem firstOut_all {d m : ByteArray} (h : firstOut d m = none) : ∀ j, j < d.size → hasB m (byteAt d j) = true := by
  unfold firstOut at h
  rw [List.find?_range_eq_none] at h
  exact fun j hj => by simpa using h j hj
/-- What is wrong with a part: the error's kind, its place in it. -/
def badQ (s : ByteArray) : Option (Nat × Nat) := if s.size = 0 then some (10, 0) else match firstOut (digsQ s) (formQ s).2.2 with
  | some k => some (11, (formQ s).2.1 + k)
  | none => none
def among_val (m : ByteArray) (b : Nat) : Bool := (List.range 256).all fun n => !hasB m (UInt8.ofNat n) || decide (valN (UInt8.ofNat n).toNat < b)
theorem among_lt {m : ByteArray} {b : Nat} (h : among_val m b = true) {c : UInt8} (hc : hasB m c = true) : valN c.toNat < b := by
  unfold among_val at h
  rw [List.all_eq_true] at h
  have := h c.toNat (List.mem_range.2 c.toNat_lt)
  simp [hc] at this
  exact this
theorem val_hex : among_val hexQ 16 = true := by decide +kernel
theorem val_oct : among_val octQ 8 = true := by decide +kernel
theorem val_dec : among_val decQ 10 = true := by decide +kernel
theorem badQ_digits {s : ByteArray} (h : badQ s = none) : ∀ j, j < (digsQ s).size → valN (byteAt (digsQ s) j).toNat < (formQ s).1 := by
  unfold badQ at h
  by_cases h0 : s.size = 0
  · rw [if_pos h0] at h; cases h
  · rw [if_neg h0] at h
    have hn : firstOut (digsQ s) (formQ s).2.2 = none := by
      cases hx : firstOut (digsQ s) (formQ s).2.2 with
      | none => rfl
      | some k => rw [hx] at h; cases h
    intro j hj
    have := firstOut_all hn j hj
    rcases formQ_three s with ⟨_, h, _⟩ | ⟨_, _, h, _⟩ | ⟨_, _, h⟩
    · rw [h] at this ⊢; exact among_lt val_hex this
    · rw [h] at this ⊢; exact among_lt val_oct this
    · rw [h] at this ⊢; exact among_lt val_dec this
/-- A part's number. -/
def numQ (s : ByteArray) : Nat := numTo (formQ s).1 (digsQ s) (digsQ s).size
def p40 : Nat := 1099511627776
theorem base_two (s : ByteArray) : 2 ≤ (formQ s).1 ∧ (formQ s).1 ≤ 16 := by
  rcases formQ_three s with ⟨_, h, _⟩ | ⟨_, _, h, _⟩ | ⟨_, _, h⟩ <;> rw [h] <;> simp
/-- One digit's number. -/
theorem num_one (c : UInt8) (h : valN c.toNat < 16) : numRes (ofL [c]) 16 15 = (valN c.toNat, 0, 0) := by
  have hs : (ofL [c]).size = 1 := by rw [ofL_size]; rfl
  have hb : byteAt (ofL [c]) 0 = c := rfl
  have hn : numTo 16 (ofL [c]) (ofL [c]).size = valN c.toNat := by rw [hs, numTo, numTo, hb]; omega
  unfold numRes
  rw [if_neg (by omega), firstBad_none (fun j hj => by have : j = 0 := by omega
                                                       subst this
                                                       rw [hb]; exact h), hn, if_neg (by omega)]
/-- The most that a part may be, and its weight: the i-th of n. -/
def limQ (i n : Nat) : Nat := if i + 1 = n then 256 ^ (5 - n) - 1 else 255
def wtQ (i n : Nat) : Nat := if i + 1 = n then 1 else 256 ^ (3 - i)
/-- All parts' check, from a place on. -/
def checkQ : List ByteArray → Nat → Option (Nat × Nat)
  | [], _ => none
  | p :: ps, at_ => match badQ p with
    | some (k, j) => some (k, at_ + j)
    | none => checkQ ps (at_ + (p.size + 1))
/-- The parts' sum, of n parts, from the i-th on: or the place of the first that is too great. -/
def sumQ (n : Nat) : List ByteArray → Nat → Nat → Nat → Nat × Option Nat
  | [], _, _, t => (t, none)
  | p :: ps, i, at_, t => if limQ i n < numQ p then (0, some at_) else sumQ n ps (i + 1) (at_ + (p.size + 1)) (t + numQ p * wtQ i n)
end Go.Proofs.YtameipbnobaoeaaDoor

/- strings.TrimSuffix at a point, strings.LastIndexByte; quad.cut, and the reference's. -/
namespace Go.Proofs.YtameipbnobaoeaaDoor
open Go.RowKit

theorem byteAt_idx {s : ByteArray} {i : Nat} (h : i < s.size) : s[i] = byteAt s i := by simp [byteAt, List.getD, h]; rfl
theorem last_point {s : ByteArray} {n : Nat} (h : s.size = n + 1) : ((s.extract n s.size).toList == [46]) = decide (byteAt s n = 46) := by
  have e0 : ([46] : List UInt8) = (⟨#[46]⟩ : ByteArray).toList := by rw [ByteArray.toList_eq]
  rw [e0, str_eqB, h, extract_one (by omega), show (⟨#[46]⟩ : ByteArray) = ofL [46] from rfl]
  by_cases hb : byteAt s n = 46
  · rw [hb]; simp
  · rw [decide_eq_false hb, decide_eq_false]
    intro e
    have := congrArg (fun x => x.data.toList) e
    simp [ofL] at this
    exact hb this
set_option maxHeartbeats 800000 in
theorem has_suffix (s : ByteArray) (n : Nat) (h : s.size = n + 1) (hs : s.size ≤ 16777216) (w : World) : Calls Tryd.prog 79 #[.string s, .string ⟨#[46]⟩] w fun e w' => e = .returned (.bool (decide (byteAt s n = 46))) ∧ w = w' := by
  have hl := last_point h
  have h1 : ¬ (s.size : Int) < 1 := by omega
  have h2 : ((s.size : Int) - 1).toNat = n := by omega
  have h3 : (1 : Int) ≤ (s.size : Int) := by omega
  clear h
  go_enter Tryd.func79, Tryd.ntmps79
  go_wp2_with fail
  go_ret
  exact ⟨rfl, rfl⟩
set_option maxHeartbeats 800000 in
theorem sl_trim (s : ByteArray) (n : Nat) (h : s.size = n + 1) (hs : s.size ≤ 16777216) (w : World) : Calls Tryd.prog 77 #[.string s, .string ⟨#[46]⟩] w fun e w' => e = .returned (.string (if byteAt s n = 46 then s.extract 0 n else s)) ∧ w = w' := by
  have c1 := Lib.hid (fun W => has_suffix s n h hs W)
  have h2 : ((s.size : Int) - 1).toNat = n := by omega
  have h3 : (1 : Int) ≤ (s.size : Int) := by omega
  clear h
  by_cases hb : byteAt s n = 46
  · rw [if_pos hb]
    rw [decide_eq_true hb] at c1
    clear hb
    go_enter Tryd.func77, Tryd.ntmps77
    go_wp2_with fail
    refine (c1.out _).mono ?_
    rintro e w2 ⟨rfl, rfl⟩
    go_wp2_with fail
    go_ret
    exact ⟨rfl, rfl⟩
  · rw [if_neg hb]
    rw [decide_eq_false hb] at c1
    clear hb
    go_enter Tryd.func77, Tryd.ntmps77
    go_wp2_with fail
    refine (c1.out _).mono ?_
    rintro e w2 ⟨rfl, rfl⟩
    go_wp2_with fail
    go_ret
    exact ⟨rfl, rfl⟩
theorem str_trim (s : ByteArray) (n : Nat) (h : s.size = n + 1) (hs : s.size ≤ 16777216) (w : World) : Calls Tryd.prog 70 #[.string s, .string ⟨#[46]⟩] w fun e w' => e = .returned (.string (if byteAt s n = 46 then s.extract 0 n else s)) ∧ w = w' := by
  have c1 := Lib.hid (fun W => sl_trim s n h hs W)
  clear h
  generalize (if byteAt s n = 46 then s.extract 0 n else s) = r at *
  go_enter Tryd.func70, Tryd.ntmps70
  go_wp2_with fail
  refine (c1.out _).mono ?_
  rintro e w2 ⟨rfl, rfl⟩
  go_wp2_with fail
  go_ret
  exact ⟨rfl, rfl⟩
/-- A text without a point at its end. -/
def cutP (s : ByteArray) : ByteArray := if 1 < s.size ∧ byteAt s (s.size - 1) = 46 then s.extract 0 (s.size - 1) else s
theorem cutP_long {s : ByteArray} {n : Nat} (h : s.size = n + 1) (h1 : 1 < s.size) : (if byteAt s n = 46 then s.extract 0 n else s) = cutP s := by
  unfold cutP
  rw [show s.size - 1 = n by omega]
  by_cases hb : byteAt s n = 46
  · rw [if_pos hb, if_pos ⟨h1, hb⟩]
  · rw [if_neg hb, if_neg (fun h => hb h.2)]
theorem cutP_short {s : ByteArray} (h1 : ¬ 1 < s.size) : cutP s = s := by unfold cutP; rw [if_neg (fun h => h1 h.1)]
theorem cutP_size (s : ByteArray) : (cutP s).size ≤ s.size := by
  unfold cutP
  split
  · rw [ByteArray.size_extract]; omega
  · exact Nat.le_refl _
theorem quad_cut (s : ByteArray) (hs : s.size ≤ 16777216) (w : World) : Calls Tryd.prog 51 #[.string s] w fun e w' => e = .returned (.string (cutP s)) ∧ w = w' := by
  by_cases h1 : 1 < s.size
  · obtain ⟨n, hn⟩ : ∃ n, s.size = n + 1 := ⟨s.size - 1, by omega⟩
    have c1 := Lib.hid (fun W => (cutP_long hn h1) ▸ str_trim s n hn hs W)
    clear hn
    generalize cutP s = r at *
    go_enter Tryd.func51, Tryd.ntmps51
    go_wp2_with fail
    refine (c1.out _).mono ?_
    rintro e w2 ⟨rfl, rfl⟩
    go_wp2_with fail
    go_ret
    exact ⟨rfl, rfl⟩
  · rw [cutP_short h1]
    go_enter Tryd.func51, Tryd.ntmps51
    go_wp2_with fail
    go_ret
    exact ⟨rfl, rfl⟩
end Go.Proofs.YtameipbnobaoeaaDoor

/- fold.Fields: the parts of a text between marks. -/
namespace Go.Proofs.YtameipbnobaoeaaDoor
open Go.RowKit

theorem info_string : (Tryd.prog.info? 9).map (fun i => (i.zero, i.size, i.bytes)) = some (some (.string ByteArray.empty), 1, 16) := by kernel_rfl

/-- What has been collected after k bytes, and where the part that is open begins. -/
def cutAt (s : ByteArray) (mark : UInt8) : Nat → List ByteArray × Nat
  | 0 => ([], 0)
  | k + 1 => if byteAt s k = mark then ((cutAt s mark k).1 ++ [s.extract (cutAt s mark k).2 k], k + 1) else cutAt s mark k

theorem cutAt_le (s : ByteArray) (mark : UInt8) (k : Nat) : (cutAt s mark k).1.length ≤ k ∧ (cutAt s mark k).2 ≤ k := by
  induction k with
  | zero => simp [cutAt]
  | succ k ih =>
    unfold cutAt
    split
    · simp; omega
    · omega

theorem cutAt_mono (s : ByteArray) (mark : UInt8) {j k : Nat} (h : j ≤ k) : (cutAt s mark j).1.length ≤ (cutAt s mark k).1.length := by
  induction h with
  | refl => exact Nat.le_refl _
  | step _ ih =>
    refine Nat.le_trans ih ?_
    rw [cutAt]
    split
    · simp
    · exact Nat.le_refl _

def FieldsPost (s : ByteArray) (mark : UInt8) (most : Int) (w : World) (e : Ending) (w' : World) : Prop :=
  Below w.heap.size w w' ∧
  ((∃ v, e = .returned (.tuple #[v, .nilIface]) ∧ ((cutAt s mark s.size).1.length : Int) < most ∧
      w'.ownsRow w.heap.size 9 1 v ((cutAt s mark s.size).1.length + 1) (((cutAt s mark s.size).1 ++ [s.extract (cutAt s mark s.size).2 s.size]).map strV)) ∨
   (∃ (i : Nat) (v : Value), e = .returned (.tuple #[.slice none 0 0, v]) ∧ i < s.size ∧ byteAt s i = mark ∧ ((cutAt s mark (i + 1)).1.length : Int) = most ∧ IsFault w' v 15 i))

set_option maxHeartbeats 1600000 in
set_option maxRecDepth 100000 in
theorem fold_Fields (s : ByteArray) (mark : UInt8) (most : Int) (w : World) (hs : s.size ≤ 16777216) (hm : 1 ≤ most) (hm2 : most ≤ 9223372036854775807) :
    Calls Tryd.prog 50 #[.string s, .int .u8 (mark.toNat : Int), .int .i64 most] w (FieldsPost s mark most w) := by
  obtain ⟨i0, hi, hz0, hz1, hz2⟩ := info_parts info_string
  go_enter Tryd.func50, Tryd.ntmps50
  go_wp2_with ((with_reducible refine wpList_bytes (o := ⟨some 16, _, _, _, _, _⟩) rfl 9 55 5 _ rfl s rfl Tryd.underlying9 Tryd.underlying55 Tryd.underlying5 ?_); intro cap w1 hcap hB hb1 hsz1)
  have hcnt := cutAt_le s mark
  go_loopw [8, 9, 18] (fun v f i wr => ∃ k : Nat, k ≤ s.size ∧ i = .int .i64 k ∧ f = .int .i64 (cutAt s mark k).2 ∧ ((cutAt s mark k).1.length : Int) < most ∧
      wr.ownsRow (w.heap.size + 1) 9 1 v (cutAt s mark k).1.length ((cutAt s mark k).1.map strV) ∧ BytesAt wr w.heap.size s.data.toList ∧ Below w.heap.size w wr ∧ w.heap.size < wr.heap.size)
    (fun _ _ i _ => s.size - (intOf i).toNat)
  case atStart => exact ⟨0, Nat.zero_le _, rfl, rfl, by simp [cutAt]; omega, World.ownsRow_nil _ _ _ _, hB, hb1, by omega⟩
  case round =>
    obtain ⟨k, hk, rfl, rfl, hlen, hown, hBr, hbr, hszr⟩ := hrel
    have hc := hcnt k
    clear hcnt
    have hcell : k < s.size → wr.cell? ⟨w.heap.size, k, none⟩ = some (.int .u8 ((byteAt s k).toNat : Int)) := fun h => hBr.byte h
    by_cases hlt : k < s.size
    · by_cases hmk : byteAt s k = mark
      · have e1 := u8_eq hmk
        have hnx : cutAt s mark (k + 1) = ((cutAt s mark k).1 ++ [s.extract (cutAt s mark k).2 k], k + 1) := by rw [cutAt, if_pos hmk]
        have HNX := Lib.hid hnx
        have hmk' := Lib.hid hmk
        clear hnx hmk
        go_wp2_with (at_builtin; refine wpList_append_own _ rfl _ _ 56 rfl (w.heap.size + 1) 9 i0 (.string ByteArray.empty) 1 16 Tryd.underlying56 hi hz0 hz1 hz2 rfl (by decide) _ _ _ rfl (hown.alloc _) ⟨wr.heap.size, 0, none⟩ 1 1 [strV (s.extract (cutAt s mark k).2 k)] rfl rfl ?c1 ?c2 ?c3 ?c4 ?c5 ?_)
        case c1 =>
          intro j u hj
          match j, hj with
          | 0, hj => simp at hj; subst hj; simp [Addr.add, strV]
        case c2 => intro u hu; simp at hu; subst hu; rfl
        case c3 => unfold maxLen; omega
        case c4 => omega
        case c5 => simp; omega
        intro v1 w2 hown1 hg1 _
        have hlt2 := hown.lt
        obtain ⟨g, c2, rfl, hgB, hgl⟩ := ownsRow_form hown1 (by omega)
        have hbr2 : Below w.heap.size w w2 := (hbr.alloc (Nat.le_of_lt hszr) _).grown hg1 (by simp; omega) (fun j hj => by have := (hlt2 j hj).1; omega)
        have hB2 : BytesAt w2 w.heap.size s.data.toList := (hBr.alloc _).grown hg1 (fun h => by have := (hlt2 _ h.symm).1; omega)
        have hs2 : w.heap.size < w2.heap.size := by have := hbr2.size; omega
        clear hg1 hlt2 hown hBr hbr hcell
        by_cases hmo : most ≤ ((cutAt s mark k).1.length : Int) + 1
        · go_wp2_with fail
          refine (api_Fail' _ _ _).mono ?_
          rintro e w3 ⟨v, rfl, hv, hb3⟩
          go_wp2_with fail
          go_ret2
          exact ⟨hbr2.trans (hb3.mono hbr2.size), .inr ⟨k, v, rfl, hlt, hmk'.out, by rw [HNX.out]; simp; omega, hv⟩⟩
        · go_wp2_with fail
          go_roundw
          case rel => exact ⟨k + 1, by omega, by go_num, by rw [HNX.out]; go_num, by rw [HNX.out]; simp; omega, by rw [HNX.out]; simpa using hown1, hB2, hbr2, hs2⟩
          case measure => simp [intOf]; omega
      · have e1 := u8_ne hmk
        have hnx : cutAt s mark (k + 1) = cutAt s mark k := by rw [cutAt, if_neg hmk]
        have HNX := Lib.hid hnx
        clear hnx hmk
        go_wp2_with fail
        go_roundw
        case rel => exact ⟨k + 1, by omega, by go_num, by rw [HNX.out], by rw [HNX.out]; exact hlen, by rw [HNX.out]; exact hown, hBr, hbr, hszr⟩
        case measure => simp [intOf]; omega
    · obtain rfl : k = s.size := by omega
      have hlt2 := hown.lt
      go_wp2_with (at_builtin; refine wpList_append_own _ rfl _ _ 56 rfl (w.heap.size + 1) 9 i0 (.string ByteArray.empty) 1 16 Tryd.underlying56 hi hz0 hz1 hz2 rfl (by decide) _ _ _ rfl (hown.alloc _) ⟨wr.heap.size, 0, none⟩ 1 1 [strV (s.extract (cutAt s mark s.size).2 s.size)] rfl rfl ?c1 ?c2 ?c3 ?c4 ?c5 ?_)
      case c1 =>
        intro j u hj
        match j, hj with
        | 0, hj => simp at hj; subst hj; simp [Addr.add, strV]
      case c2 => intro u hu; simp at hu; subst hu; rfl
      case c3 => unfold maxLen; omega
      case c4 => omega
      case c5 => simp; omega
      intro v1 w2 hown1 hg1 _
      have hbr2 : Below w.heap.size w w2 := (hbr.alloc (Nat.le_of_lt hszr) _).grown hg1 (by simp; omega) (fun j hj => by have := (hlt2 j hj).1; omega)
      clear hg1 hlt2 hown hBr hbr hcell
      go_wp2_with fail
      go_ret2
      exact ⟨hbr2, .inl ⟨v1, rfl, hlen, ownsRow_base (by simpa using hown1) (by omega)⟩⟩

set_option maxHeartbeats 400000 in
theorem fold_Fields_arg (s : ByteArray) (mark : UInt8) (most : Int) (w : World) (hm : most < 1) :
    Calls Tryd.prog 50 #[.string s, .int .u8 (mark.toNat : Int), .int .i64 most] w fun e w' => ∃ v, e = .returned (.tuple #[.slice none 0 0, v]) ∧ IsFault w' v 1 0 ∧ Below w.heap.size w w' := by
  go_enter Tryd.func50, Tryd.ntmps50
  go_wp2_with fail
  refine (api_Fail' _ _ _).mono ?_
  rintro e w3 ⟨v, rfl, hv, hb3⟩
  go_wp2_with fail
  go_ret2
  exact ⟨v, rfl, hv, hb3⟩
end Go.Proofs.YtameipbnobaoeaaDoor

/- Plain: an address's text as a whole: its parts, the first thing that is wrong, its number. -/
namespace Go.Proofs.YtameipbnobaoeaaDoor

/-- All parts between marks. -/
def fieldsB (t : ByteArray) (mark : UInt8) : List ByteArray := (cutAt t mark t.size).1 ++ [t.extract (cutAt t mark t.size).2 t.size]
/-- The mark at which there are too many parts. -/
def overB (t : ByteArray) (mark : UInt8) (most : Nat) : Option Nat := (List.range t.size).find? fun i => decide (byteAt t i = mark ∧ (cutAt t mark (i + 1)).1.length = most)
theorem over_some {t : ByteArray} {mark : UInt8} {most i : Nat} (hi : i < t.size) (hb : byteAt t i = mark) (h : (cutAt t mark (i + 1)).1.length = most) : overB t mark most = some i := by
  unfold overB
  rw [List.find?_range_eq_some]
  refine ⟨by simp [hb, h], List.mem_range.2 hi, fun j hj => ?_⟩
  have h1 : (cutAt t mark (i + 1)).1.length = (cutAt t mark i).1.length + 1 := by rw [cutAt, if_pos hb]; simp
  have h2 := cutAt_mono t mark (j := j + 1) (k := i) hj
  simp only [Bool.not_eq_true', decide_eq_false_iff_not]
  omega
theorem over_none {t : ByteArray} {mark : UInt8} {most : Nat} (h : (cutAt t mark t.size).1.length < most) : overB t mark most = none := by
  unfold overB
  rw [List.find?_range_eq_none]
  intro i hi
  have h2 := cutAt_mono t mark (j := i + 1) (k := t.size) hi
  simp only [Bool.not_eq_true', decide_eq_false_iff_not]
  omega
theorem cut_sizes (t : ByteArray) (mark : UInt8) (k : Nat) : ∀ p ∈ (cutAt t mark k).1, p.size ≤ t.size := by
  induction k with
  | zero => intro p hp; simp [cutAt] at hp
  | succ k ih =>
    intro p hp
    rw [cutAt] at hp
    split at hp
    · rcases List.mem_append.1 hp with h | h
      · exact ih p h
      · simp at h; subst h; rw [ByteArray.size_extract]; omega
    · exact ih p hp
theorem fields_sizes (t : ByteArray) (mark : UInt8) : ∀ p ∈ fieldsB t mark, p.size ≤ t.size := by
  intro p hp
  rcases List.mem_append.1 hp with h | h
  · exact cut_sizes t mark _ p h
  · simp at h; subst h; rw [ByteArray.size_extract]; omega
theorem fields_len (t : ByteArray) (mark : UInt8) : (fieldsB t mark).length = (cutAt t mark t.size).1.length + 1 := by unfold fieldsB; simp
/-- What an address's text gives: the number, the error's kind (0: none), its place. -/
def parseQ (s : ByteArray) : Nat × Nat × Nat := match overB (cutP s) 46 4 with
  | some i => (0, 15, i)
  | none => match checkQ (fieldsB (cutP s) 46) 0 with
    | some (k, a) => (0, k, a)
    | none => match sumQ (fieldsB (cutP s) 46).length (fieldsB (cutP s) 46) 0 0 0 with
      | (t, none) => (t, 0, 0)
      | (_, some p) => (0, 16, p)
theorem parse_over {s : ByteArray} {i : Nat} (h : overB (cutP s) 46 4 = some i) : parseQ s = (0, 15, i) := by unfold parseQ; rw [h]
theorem parse_bad {s : ByteArray} {k a : Nat} (h : overB (cutP s) 46 4 = none) (h2 : checkQ (fieldsB (cutP s) 46) 0 = some (k, a)) : parseQ s = (0, k, a) := by unfold parseQ; rw [h, h2]
theorem parse_range {s : ByteArray} {t p : Nat} (h : overB (cutP s) 46 4 = none) (h2 : checkQ (fieldsB (cutP s) 46) 0 = none) (h3 : sumQ (fieldsB (cutP s) 46).length (fieldsB (cutP s) 46) 0 0 0 = (t, some p)) : parseQ s = (0, 16, p) := by unfold parseQ; rw [h, h2, h3]
theorem parse_good {s : ByteArray} {t : Nat} (h : overB (cutP s) 46 4 = none) (h2 : checkQ (fieldsB (cutP s) 46) 0 = none) (h3 : sumQ (fieldsB (cutP s) 46).length (fieldsB (cutP s) 46) 0 0 0 = (t, none)) : parseQ s = (t, 0, 0) := by unfold parseQ; rw [h, h2, h3]
theorem check_none {ps : List ByteArray} : ∀ a : Nat, checkQ ps a = none → ∀ p ∈ ps, badQ p = none := by
  induction ps with
  | nil => intro a _ p hp; cases hp
  | cons x ps ih =>
    intro a h p hp
    unfold checkQ at h
    cases hx : badQ x with
    | some k => obtain ⟨k, j⟩ := k; rw [hx] at h; cases h
    | none =>
      rw [hx] at h
      rcases List.mem_cons.1 hp with rfl | hp
      · exact hx
      · exact ih _ h p hp
theorem check_yes {p : ByteArray} {ps : List ByteArray} {a : Nat} (h : badQ p = none) : checkQ (p :: ps) a = checkQ ps (a + (p.size + 1)) := by rw [checkQ, h]
theorem check_no {p : ByteArray} {ps : List ByteArray} {a k j : Nat} (h : badQ p = some (k, j)) : checkQ (p :: ps) a = some (k, a + j) := by rw [checkQ, h]
theorem sum_no {n i a t : Nat} {p : ByteArray} {ps : List ByteArray} (h : limQ i n < numQ p) : sumQ n (p :: ps) i a t = (0, some a) := by rw [sumQ, if_pos h]
theorem sum_yes {n i a t : Nat} {p : ByteArray} {ps : List ByteArray} (h : ¬ limQ i n < numQ p) : sumQ n (p :: ps) i a t = sumQ n ps (i + 1) (a + (p.size + 1)) (t + numQ p * wtQ i n) := by rw [sumQ, if_neg h]
theorem lim_wt {i n x : Nat} (hi : i < n) (hn : n ≤ 4) (h : ¬ limQ i n < x) : x * wtQ i n ≤ 4294967295 ∧ limQ i n ≤ 4294967295 := by
  have h' : x ≤ limQ i n := by omega
  have hcases : ∀ n : Fin 5, ∀ i : Fin 4, i.1 < n.1 → limQ i.1 n.1 * wtQ i.1 n.1 ≤ 4294967295 ∧ limQ i.1 n.1 ≤ 4294967295 := by decide
  have := hcases ⟨n, by omega⟩ ⟨i, by omega⟩ hi
  exact ⟨Nat.le_trans (Nat.mul_le_mul_right _ h') this.1, this.2⟩
theorem lim_p40 {i n : Nat} (hi : i < n) (hn : n ≤ 4) : limQ i n < 4294967296 := by
  have hcases : ∀ n : Fin 5, ∀ i : Fin 4, i.1 < n.1 → limQ i.1 n.1 < 4294967296 := by decide
  exact hcases ⟨n, by omega⟩ ⟨i, by omega⟩ hi
theorem drop_cons {α : Type} {l : List α} {i : Nat} {d : α} (h : l[i]? = some d) : l.drop i = d :: l.drop (i + 1) := by
  obtain ⟨hi, rfl⟩ := List.getElem?_eq_some_iff.1 h
  exact List.drop_eq_getElem_cons hi
end Go.Proofs.YtameipbnobaoeaaDoor
