/- Items out of parts, one behind the other, as long as nothing is wrong: plain facts. -/
import Derived.Test.YteabhblbefglpaaDoorQueryFindsM2
import Derived.Test.YteabhblbefglpaaDoorQueryFindsM13
import Derived.Test.YteabhblbefglpaaDoorQueryFindsM1
import Derived.Test.YteabhblbefglpaaDoorQueryFindsM4
import Derived.Test.YteabhblbefglpaaDoorShelf
import Derived.Shelf.Spec.BitsCarry

namespace Go.Proofs.YteabhblbefglpaaDoor

/-- What a part gives (are there as many items as may be?): nothing, an error's kind and place, or an item. -/
abbrev StepG := ByteArray → Bool → Option (Except (Nat × Nat) It)
structure RightG (g : StepG) : Prop where
  kind : ∀ p b k i, g p b = some (.error (k, i)) → k ≠ 0
  none : ∀ p b b', g p b = none → g p b' = none
  full : ∀ p x, g p true ≠ some (.ok x)
section
variable (g : StepG) (most : Nat)
/-- Parts' items behind those that there are, the error's kind, its place. -/
def goG : List ByteArray → Nat → List It → List It × Nat × Nat
  | [], _, acc => (acc, 0, 0)
  | p :: ps, at_, acc => match g p (decide (acc.length = most)) with
    | none => goG ps (at_ + p.size + 1) acc
    | some (.error (k, i)) => ([], k, at_ + i)
    | some (.ok x) => goG ps (at_ + p.size + 1) (acc ++ [x])
variable {g most} {p : ByteArray} {ps : List ByteArray} {at_ k i : Nat} {acc : List It} {x : It}
theorem goG_nil : goG g most [] at_ acc = (acc, 0, 0) := rfl
theorem goG_none (h : g p (decide (acc.length = most)) = none) : goG g most (p :: ps) at_ acc = goG g most ps (at_ + p.size + 1) acc := by rw [goG, h]
theorem goG_bad (h : g p (decide (acc.length = most)) = some (.error (k, i))) : goG g most (p :: ps) at_ acc = ([], k, at_ + i) := by rw [goG, h]
theorem goG_ok (h : g p (decide (acc.length = most)) = some (.ok x)) : goG g most (p :: ps) at_ acc = goG g most ps (at_ + p.size + 1) (acc ++ [x]) := by rw [goG, h]
end
/-- A part's three ways. -/
theorem goG_ways (g : StepG) (most : Nat) (p : ByteArray) (acc : List It) : g p (decide (acc.length = most)) = none ∨ (∃ k i, g p (decide (acc.length = most)) = some (.error (k, i))) ∨ ∃ x, g p (decide (acc.length = most)) = some (.ok x) := by
  cases g p (decide (acc.length = most)) with
  | none => exact .inl rfl
  | some r => cases r with
    | error e => exact .inr (.inl ⟨e.1, e.2, rfl⟩)
    | ok x => exact .inr (.inr ⟨x, rfl⟩)
section
variable {g : StepG} {most : Nat} (hg : RightG g)
include hg
theorem goG_len : ∀ (ps : List ByteArray) (at_ : Nat) (acc : List It), acc.length ≤ most → (goG g most ps at_ acc).1.length ≤ most
  | [], _, acc, h => h
  | p :: ps, at_, acc, h => by
    rcases goG_ways g most p acc with h1 | ⟨k, i, h1⟩ | ⟨x, h1⟩
    · rw [goG_none h1]; exact goG_len ps _ _ h
    · rw [goG_bad h1]; simp
    · rw [goG_ok h1]
      refine goG_len ps _ _ ?_
      have : acc.length ≠ most := fun e => by rw [decide_eq_true e] at h1; exact hg.full p x h1
      simp; omega
omit hg in
theorem goG_empty : ∀ (ps : List ByteArray) (at_ : Nat) (acc : List It), (goG g most ps at_ acc).2.1 ≠ 0 → (goG g most ps at_ acc).1 = []
  | [], _, acc, h => absurd rfl h
  | p :: ps, at_, acc, h => by
    rcases goG_ways g most p acc with h1 | ⟨k, i, h1⟩ | ⟨x, h1⟩
    · rw [goG_none h1] at h ⊢; exact goG_empty ps _ _ h
    · rw [goG_bad h1]
    · rw [goG_ok h1] at h ⊢; exact goG_empty ps _ _ h
theorem goG_zero : ∀ (ps : List ByteArray) (at_ : Nat) (acc : List It), (goG g most ps at_ acc).2.1 = 0 → (goG g most ps at_ acc).2.2 = 0
  | [], _, acc, h => rfl
  | p :: ps, at_, acc, h => by
    rcases goG_ways g most p acc with h1 | ⟨k, i, h1⟩ | ⟨x, h1⟩
    · rw [goG_none h1] at h ⊢; exact goG_zero ps _ _ h
    · rw [goG_bad h1] at h; exact absurd h (hg.kind _ _ _ _ h1)
    · rw [goG_ok h1] at h ⊢; exact goG_zero ps _ _ h
theorem goG_grow : ∀ (ps : List ByteArray) (at_ : Nat) (acc : List It), (goG g most ps at_ acc).2.1 = 0 → ∃ l, (goG g most ps at_ acc).1 = acc ++ l
  | [], _, acc, _ => ⟨[], by rw [goG_nil]; simp⟩
  | p :: ps, at_, acc, h => by
    rcases goG_ways g most p acc with h1 | ⟨k, i, h1⟩ | ⟨x, h1⟩
    · rw [goG_none h1] at h ⊢; exact goG_grow ps _ _ h
    · rw [goG_bad h1] at h; exact absurd h (hg.kind _ _ _ _ h1)
    · rw [goG_ok h1] at h ⊢
      obtain ⟨l, e⟩ := goG_grow ps _ _ h
      exact ⟨x :: l, by rw [e]; simp⟩
theorem goG_app : ∀ (ps qs : List ByteArray) (at_ : Nat) (acc : List It), goG g most (ps ++ qs) at_ acc = if (goG g most ps at_ acc).2.1 = 0 then goG g most qs (at_ + (ps.map fun p => p.size + 1).sum) (goG g most ps at_ acc).1 else goG g most ps at_ acc
  | [], qs, at_, acc => by simp [goG_nil]
  | p :: ps, qs, at_, acc => by
    rw [List.cons_append]
    have e : at_ + ((p :: ps).map fun p => p.size + 1).sum = at_ + p.size + 1 + (ps.map fun p => p.size + 1).sum := by rw [List.map_cons, List.sum_cons]; omega
    rcases goG_ways g most p acc with h1 | ⟨k, i, h1⟩ | ⟨x, h1⟩
    · rw [goG_none h1, goG_none h1, goG_app ps qs, e]
    · rw [goG_bad h1, goG_bad h1, if_neg (hg.kind _ _ _ _ h1)]
    · rw [goG_ok h1, goG_ok h1, goG_app ps qs, e]
/-- From another place, behind other items: the same items. -/
theorem goG_move : ∀ (ps : List ByteArray) (a1 a2 : Nat) (x acc : List It), (goG g most ps a1 acc).2.1 = 0 → x.length + (goG g most ps a1 acc).1.length ≤ most → goG g most ps a2 (x ++ acc) = (x ++ (goG g most ps a1 acc).1, 0, 0)
  | [], a1, a2, x, acc, _, _ => rfl
  | p :: ps, a1, a2, x, acc, h, h2 => by
    rcases goG_ways g most p acc with h1 | ⟨k, i, h1⟩ | ⟨y, h1⟩
    · rw [goG_none h1] at h h2 ⊢
      rw [goG_none (hg.none _ _ _ h1)]
      exact goG_move ps _ _ x acc h h2
    · rw [goG_bad h1] at h; exact absurd h (hg.kind _ _ _ _ h1)
    · rw [goG_ok h1] at h h2 ⊢
      obtain ⟨l, e⟩ := goG_grow hg ps _ _ h
      have hl := congrArg List.length e
      simp only [List.length_append, List.length_cons, List.length_nil] at hl
      have h3 : acc.length ≠ most := fun e => by rw [decide_eq_true e] at h1; exact hg.full p y h1
      have h4 : (x ++ acc).length ≠ most := by simp; omega
      rw [decide_eq_false h3] at h1
      have h5 : g p (decide ((x ++ acc).length = most)) = some (.ok y) := by rw [decide_eq_false h4]; exact h1
      rw [goG_ok h5, List.append_assoc]
      exact goG_move ps _ _ x (acc ++ [y]) h h2
end
/-- The parts of a text between marks. -/
def partsB (c : UInt8) (s : ByteArray) : List ByteArray := (splitL c s.data.toList).map ofL
theorem partsB_app (c : UInt8) (s t : ByteArray) : partsB c (s ++ ofL [c] ++ t) = partsB c s ++ partsB c t := by
  unfold partsB
  rw [← List.map_append, ← splitL_app c t.data.toList s.data.toList.length s.data.toList (Nat.le_refl _)]
  congr 2
  rw [ByteArray.data_append, ByteArray.data_append]
  simp [ofL]
section
variable {g : StepG} {most : Nat} (hg : RightG g)
include hg
theorem goG_both (c : UInt8) (s t : ByteArray) (h1 : (goG g most (partsB c s) 0 []).2.1 = 0) (h2 : (goG g most (partsB c t) 0 []).2.1 = 0) (h3 : (goG g most (partsB c s) 0 []).1.length + (goG g most (partsB c t) 0 []).1.length ≤ most) :
    goG g most (partsB c (s ++ ofL [c] ++ t)) 0 [] = ((goG g most (partsB c s) 0 []).1 ++ (goG g most (partsB c t) 0 []).1, 0, 0) := by
  rw [partsB_app, goG_app hg, if_pos h1]
  have := goG_move hg (partsB c t) 0 (0 + ((partsB c s).map fun p => p.size + 1).sum) (goG g most (partsB c s) 0 []).1 [] h2 h3
  rw [List.append_nil] at this
  exact this
theorem goG_first (c : UInt8) (s t : ByteArray) (h1 : (goG g most (partsB c s) 0 []).2.1 ≠ 0) : goG g most (partsB c (s ++ ofL [c] ++ t)) 0 [] = goG g most (partsB c s) 0 [] := by
  rw [partsB_app, goG_app hg, if_neg h1]
end
end Go.Proofs.YteabhblbefglpaaDoor

/- A list cut at a mark once: plain facts. -/
namespace Go.Proofs.YteabhblbefglpaaDoor

/-- A list's part ahead of a mark, the part behind it, and whether it stands there. -/
def cutL (c : UInt8) : List UInt8 → List UInt8 × List UInt8 × Bool
  | [] => ([], [], false)
  | x :: l => if x = c then ([], l, true) else (x :: (cutL c l).1, (cutL c l).2.1, (cutL c l).2.2)
def cutN (c : UInt8) (s : ByteArray) : ByteArray := ofL (cutL c s.data.toList).1
def cutV (c : UInt8) (s : ByteArray) : ByteArray := ofL (cutL c s.data.toList).2.1
def cutH (c : UInt8) (s : ByteArray) : Bool := (cutL c s.data.toList).2.2
theorem cutL_none (c : UInt8) : ∀ (a : List UInt8), (∀ x ∈ a, x ≠ c) → cutL c a = (a, [], false)
  | [], _ => rfl
  | x :: a, h => by rw [cutL, if_neg (h x (by simp)), cutL_none c a (fun y hy => h y (by simp [hy]))]
theorem cutL_cut (c : UInt8) (b : List UInt8) : ∀ (a : List UInt8), (∀ x ∈ a, x ≠ c) → cutL c (a ++ c :: b) = (a, b, true)
  | [], _ => by simp [cutL]
  | x :: a, h => by rw [List.cons_append, cutL, if_neg (h x (by simp)), cutL_cut c b a (fun y hy => h y (by simp [hy]))]
theorem cutL_len (c : UInt8) (l : List UInt8) : (cutL c l).1.length + (cutL c l).2.1.length + (if (cutL c l).2.2 = true then 1 else 0) = l.length := by
  rcases first_cut c l with h | ⟨a, b, e, h⟩
  · rw [cutL_none c l h]; simp
  · subst e; rw [cutL_cut c b a h]; simp; omega
theorem cutN_size (c : UInt8) (s : ByteArray) : (cutN c s).size ≤ s.size := by
  have := cutL_len c s.data.toList
  have hl : s.data.toList.length = s.size := rfl
  unfold cutN; rw [ofL_size]; omega
theorem cutV_size (c : UInt8) (s : ByteArray) : (cutV c s).size ≤ s.size := by
  have := cutL_len c s.data.toList
  have hl : s.data.toList.length = s.size := rfl
  unfold cutV; rw [ofL_size]; omega
theorem ofL_data (l : List UInt8) : (ofL l).data.toList = l := by simp [ofL]
/-- The index of a mark tells where a text is cut. -/
theorem cut_ways (c : UInt8) (s : ByteArray) : (Lib.indexByte s.data.toList c = -1 ∧ cutN c s = s ∧ cutV c s = ⟨#[]⟩ ∧ cutH c s = false ∧ ∀ j, j < s.size → byteAt s j ≠ c) ∨
    ∃ i : Nat, Lib.indexByte s.data.toList c = i ∧ i < s.size ∧ cutN c s = s.extract 0 i ∧ cutV c s = s.extract (i + 1) s.size ∧ cutH c s = true ∧ byteAt s i = c ∧ ∀ j, j < i → byteAt s j ≠ c := by
  have hl : s.data.toList.length = s.size := rfl
  have hget : ∀ j, (h : j < s.size) → byteAt s j = s.data.toList[j] := fun j h => by unfold byteAt; rw [List.getD, List.getElem?_eq_getElem (by omega)]; rfl
  unfold cutN cutV cutH
  rcases first_cut c s.data.toList with h | ⟨a, b, e, h⟩
  · refine .inl ⟨by rw [← Lib.index_one]; exact split_index_none h, ?_, ?_, ?_, fun j hj => ?_⟩
    · rw [cutL_none c _ h]; exact ofL_list s
    · rw [cutL_none c _ h]; rfl
    · rw [cutL_none c _ h]
    · rw [hget j hj]; exact h _ (List.getElem_mem _)
  · have hs : s.size = a.length + 1 + b.length := by rw [← hl, e]; simp; omega
    refine .inr ⟨a.length, by rw [← Lib.index_one, e]; exact split_index h, by omega, ?_, ?_, ?_, ?_, fun j hj => ?_⟩
    · rw [e, cutL_cut c b a h]
      apply ByteArray.ext
      apply Array.ext'
      rw [Lib.extract_data, e]
      simp [ofL]
    · rw [e, cutL_cut c b a h]
      apply ByteArray.ext
      apply Array.ext'
      rw [Lib.extract_data, e, hs]
      simp [ofL]
    · rw [e, cutL_cut c b a h]
    · rw [hget _ (by omega)]; simp [e]
    · rw [hget _ (by omega)]
      have : s.data.toList[j]'(by omega) = a[j] := by simp [e, List.getElem_append_left, hj]
      rw [this]
      exact h _ (List.getElem_mem _)
/-- Where a text is cut, as one who goes from byte to byte finds it. -/
theorem cut_lim (c : UInt8) (s : ByteArray) : ∃ i, i ≤ s.size ∧ (∀ j, j < i → byteAt s j ≠ c) ∧ cutN c s = s.extract 0 i ∧ (cutN c s).size = i ∧ ((i = s.size ∧ cutV c s = ⟨#[]⟩ ∧ cutH c s = false) ∨ (i < s.size ∧ byteAt s i = c ∧ cutV c s = s.extract (i + 1) s.size ∧ cutH c s = true)) := by
  rcases cut_ways c s with ⟨_, e1, e2, e3, h⟩ | ⟨i, _, hi, e1, e2, e3, h0, h⟩
  · refine ⟨s.size, Nat.le_refl _, h, ?_, by rw [e1], .inl ⟨rfl, e2, e3⟩⟩
    rw [e1]
    apply ByteArray.ext
    apply Array.ext'
    rw [Lib.extract_data]
    have hl : s.data.toList.length = s.size := rfl
    rw [List.drop_zero, Nat.sub_zero, ← hl, List.take_length]
  · exact ⟨i, by omega, h, e1, by rw [e1, ByteArray.size_extract]; omega, .inr ⟨hi, h0, e2, e3⟩⟩
theorem u8_neN {b : UInt8} {n : Nat} (hn : n < 256) (h : b ≠ UInt8.ofNat n) : ((b.toNat : Int) != (n : Int)) = true := by
  simp only [bne_iff_ne, ne_eq, Int.ofNat_inj]
  intro e
  apply h
  apply UInt8.toNat_inj.1
  rw [e, UInt8.toNat_ofNat_of_lt' hn]
theorem u8_eqN {b : UInt8} {n : Nat} (hn : n < 256) (h : b = UInt8.ofNat n) : ((b.toNat : Int) != (n : Int)) = false := by
  subst h
  rw [UInt8.toNat_ofNat_of_lt' hn]
  simp
theorem byteAt_ix {s : ByteArray} {i : Nat} (h : i < s.size) : byteAt s i = s[i] := by simp [byteAt, List.getD, h]; rfl
end Go.Proofs.YteabhblbefglpaaDoor

/- fold.value and fold.number: the number of a text's digits. -/
namespace Go.Proofs.YteabhblbefglpaaDoor
open Go.RowKit

/-- A digit's value; 99 where it is none. -/
def valN (n : Nat) : Nat := if 48 ≤ n ∧ n ≤ 57 then n - 48 else if 97 ≤ n ∧ n ≤ 102 then n - 87 else if 65 ≤ n ∧ n ≤ 70 then n - 55 else 99


set_option maxHeartbeats 1600000 in
theorem fold_value (n : Nat) (hn : n < 256) (w : World) : Calls Tryd.prog 140 #[.int .u8 (n : Int)] w fun e w' => e = .returned (.int .u64 (valN n : Nat)) ∧ w = w' := by
  have hc : n < 48 ∨ (48 ≤ n ∧ n ≤ 57) ∨ (57 < n ∧ n < 65) ∨ (65 ≤ n ∧ n ≤ 70) ∨ (70 < n ∧ n < 97) ∨ (97 ≤ n ∧ n ≤ 102) ∨ 102 < n := by omega
  have hv : n < 48 ∨ (57 < n ∧ n < 65) ∨ (70 < n ∧ n < 97) ∨ 102 < n → valN n = 99 := by
    intro h; unfold valN; rw [if_neg (by omega), if_neg (by omega), if_neg (by omega)]
  have hv1 : 48 ≤ n ∧ n ≤ 57 → valN n = n - 48 := by intro h; unfold valN; rw [if_pos h]
  have hv2 : 97 ≤ n ∧ n ≤ 102 → valN n = n - 87 := by intro h; unfold valN; rw [if_neg (by omega), if_pos h]
  have hv3 : 65 ≤ n ∧ n ≤ 70 → valN n = n - 55 := by intro h; unfold valN; rw [if_neg (by omega), if_neg (by omega), if_pos h]
  have HV := Lib.hid hv
  have HV1 := Lib.hid hv1
  have HV2 := Lib.hid hv2
  have HV3 := Lib.hid hv3
  clear hv hv1 hv2 hv3
  rcases hc with h | ⟨h, h'⟩ | ⟨h, h'⟩ | ⟨h, h'⟩ | ⟨h, h'⟩ | ⟨h, h'⟩ | h
  all_goals
    go_enter Tryd.func140, Tryd.ntmps140
    go_wp2
    go_ret
  · exact ⟨ret_u64 (by rw [HV.out (by omega)]; rfl), rfl⟩
  · exact ⟨ret_u64 (by rw [HV1.out (by omega)]; omega), rfl⟩
  · exact ⟨ret_u64 (by rw [HV.out (by omega)]; rfl), rfl⟩
  · exact ⟨ret_u64 (by rw [HV3.out (by omega)]; omega), rfl⟩
  · exact ⟨ret_u64 (by rw [HV.out (by omega)]; rfl), rfl⟩
  · exact ⟨ret_u64 (by rw [HV2.out (by omega)]; omega), rfl⟩
  · exact ⟨ret_u64 (by rw [HV.out (by omega)]; rfl), rfl⟩

theorem bits_Mul64 (x y : Nat) (hx : x < 18446744073709551616) (hy : y < 18446744073709551616) (w : World) :
    Calls Tryd.prog 65 #[.int .u64 (x : Int), .int .u64 (y : Int)] w fun e w' => ∃ hi lo : Nat, e = .returned (.tuple #[.int .u64 (hi : Int), .int .u64 (lo : Int)]) ∧ Hid (hi * 18446744073709551616 + lo = x * y) ∧ lo < 18446744073709551616 ∧ w = w' :=
  (Tryd.bits_Mul64 x y hx hy w).mono fun _ _ ⟨he, hw⟩ => ⟨_, _, he, Lib.hid (by have := Nat.div_add_mod (x * y) 18446744073709551616; omega), Nat.mod_lt _ (by omega), hw.symm⟩

theorem bits_Add64 (x y : Nat) (hx : x < 18446744073709551616) (hy : y < 18446744073709551616) : ∃ s c : Nat, (∀ w : World, (callFunc 66 #[.int .u64 (x : Int), .int .u64 (y : Int), .int .u64 0]).run Tryd.prog w = .ok (.value (.tuple #[.int .u64 (s : Int), .int .u64 (c : Int)])) w) ∧ Hid (c * 18446744073709551616 + s = x + y) ∧ s < 18446744073709551616 ∧ c ≤ 1 := by
  refine ⟨(x + y) % 18446744073709551616, (x + y) / 18446744073709551616, fun w => ?_, Lib.hid (by have := Nat.div_add_mod (x + y) 18446744073709551616; omega), Nat.mod_lt _ (by omega), by omega⟩
  rw [run_callFunc_extern Tryd.func66 (by kernel_rfl) (by kernel_rfl) (by kernel_rfl) (e := add64Entry) (by kernel_rfl) _ w, run_add64 x y 0 (by omega) (by omega) (by omega) (by omega)]
  simp only [Result.andThen]
  congr 5 <;> omega

/-- The number that the first k bytes give. -/
def numTo (base : Nat) (s : ByteArray) : Nat → Nat
  | 0 => 0
  | k + 1 => numTo base s k * base + valN (byteAt s k).toNat

/-- The first byte that is no digit of the base. -/
def firstBad (base : Nat) (s : ByteArray) : Option Nat := (List.range s.size).find? fun i => decide (base ≤ valN (byteAt s i).toNat)

/-- A text's number, of a base, at most another one: the number, the error's kind (0: none), its place. -/
def numRes (s : ByteArray) (base most : Nat) : Nat × Nat × Nat :=
  if s.size = 0 then (0, 10, 0) else match firstBad base s with
    | some i => (0, 11, i)
    | none => if 18446744073709551616 ≤ numTo base s s.size ∨ most < numTo base s s.size then (0, 16, 0) else (numTo base s s.size, 0, 0)

theorem firstBad_some {base : Nat} {s : ByteArray} {i : Nat} (hi : i < s.size) (h : ∀ j, j < i → valN (byteAt s j).toNat < base) (hb : base ≤ valN (byteAt s i).toNat) : firstBad base s = some i := by
  unfold firstBad
  rw [List.find?_range_eq_some]
  exact ⟨by simpa using hb, by simpa using hi, fun j hj => by simpa using h j hj⟩
theorem firstBad_none {base : Nat} {s : ByteArray} (h : ∀ j, j < s.size → valN (byteAt s j).toNat < base) : firstBad base s = none := by
  unfold firstBad
  rw [List.find?_eq_none]
  intro j hj
  simpa using h j (by simpa using hj)

theorem numTo_le (base : Nat) (s : ByteArray) (hb : 1 ≤ base) {j k : Nat} (h : j ≤ k) : numTo base s j ≤ numTo base s k := by
  induction h with
  | refl => exact Nat.le_refl _
  | step _ ih => exact Nat.le_trans ih (Nat.le_trans (Nat.le_mul_of_pos_right _ hb) (Nat.le_add_right _ _))

def NumPost (s : ByteArray) (base most : Nat) (w : World) (e : Ending) (w' : World) : Prop :=
  ∃ v, e = .returned (.tuple #[.int .u64 ((numRes s base most).1 : Int), v]) ∧ IsErr w' v (numRes s base most).2.1 (numRes s base most).2.2 ∧ Below w.heap.size w w'

theorem NumPost.bad {s : ByteArray} {base most : Nat} {w w' : World} {i : Nat} {v : Value} (hi : i < s.size) (h : ∀ j, j < i → valN (byteAt s j).toNat < base) (hb : base ≤ valN (byteAt s i).toNat)
    (hv : IsFault w' v 11 i) (hw : Below w.heap.size w w') : NumPost s base most w (.returned (.tuple #[.int .u64 0, v])) w' := by
  have e : numRes s base most = (0, 11, i) := by rw [numRes, if_neg (by omega), firstBad_some hi h hb]
  exact ⟨v, by rw [e]; rfl, .inr ⟨by rw [e]; exact (by decide : (11 : Nat) ≠ 0), _, by rw [e]; exact hv⟩, hw⟩
theorem NumPost.over {s : ByteArray} {base most : Nat} {w w' : World} {v : Value} (h0 : 0 < s.size) (h : ∀ j, j < s.size → valN (byteAt s j).toNat < base)
    (ho : 18446744073709551616 ≤ numTo base s s.size ∨ most < numTo base s s.size)
    (hv : IsFault w' v 16 0) (hw : Below w.heap.size w w') : NumPost s base most w (.returned (.tuple #[.int .u64 0, v])) w' := by
  have e : numRes s base most = (0, 16, 0) := by rw [numRes, if_neg (by omega), firstBad_none h]; exact if_pos ho
  exact ⟨v, by rw [e]; rfl, .inr ⟨by rw [e]; decide, _, by rw [e]; exact hv⟩, hw⟩
theorem NumPost.good {s : ByteArray} {base most : Nat} {w w' : World} {n : Int} (h0 : 0 < s.size) (h : ∀ j, j < s.size → valN (byteAt s j).toNat < base)
    (ho : ¬ (18446744073709551616 ≤ numTo base s s.size ∨ most < numTo base s s.size)) (hn : n = numTo base s s.size)
    (hw : Below w.heap.size w w') : NumPost s base most w (.returned (.tuple #[.int .u64 n, .nilIface])) w' := by
  have e : numRes s base most = (numTo base s s.size, 0, 0) := by rw [numRes, if_neg (by omega), firstBad_none h]; exact if_neg ho
  exact ⟨_, by rw [e, hn], .inl ⟨by rw [e], rfl⟩, hw⟩

/-- The state of the loop behind k bytes: the number as far as it fits; whether it does not. -/
def NumSt (base : Nat) (s : ByteArray) (k n : Nat) (o : Bool) : Prop := o = decide (18446744073709551616 ≤ numTo base s k) ∧ (numTo base s k < 18446744073709551616 → n = numTo base s k) ∧ ∀ j, j < k → valN (byteAt s j).toNat < base
theorem NumSt.zero (base : Nat) (s : ByteArray) : NumSt base s 0 0 false := ⟨rfl, fun _ => rfl, fun j hj => by omega⟩
theorem NumSt.step {base : Nat} {s : ByteArray} {k n hi lo sm c : Nat} {o : Bool} (hb : 1 ≤ base) (h : NumSt base s k n o) (hd : valN (byteAt s k).toNat < base)
    (h1 : hi * 18446744073709551616 + lo = n * base) (h2 : c * 18446744073709551616 + sm = lo + valN (byteAt s k).toNat) (h3 : sm < 18446744073709551616) (o' : Bool)
    (ho : o' = (o || decide (0 < hi + c))) : NumSt base s (k + 1) sm o' := by
  obtain ⟨e1, e2, e3⟩ := h
  have hle := numTo_le base s hb (Nat.le_succ k)
  refine ⟨?_, ?_, fun j hj => ?_⟩
  · rw [ho, e1]
    change numTo base s k ≤ numTo base s (k + 1) at hle
    by_cases hx : 18446744073709551616 ≤ numTo base s k
    · rw [decide_eq_true hx, decide_eq_true (Nat.le_trans hx hle)]; rfl
    · rw [decide_eq_false hx, Bool.false_or]
      have hn := e2 (by omega)
      rw [decide_eq_decide, numTo, ← hn, ← h1]
      omega
  · intro hlt
    have hn := e2 (Nat.lt_of_le_of_lt hle hlt)
    have : numTo base s (k + 1) = n * base + valN (byteAt s k).toNat := by rw [numTo, hn]
    omega
  · by_cases hjk : j = k
    · subst hjk; exact hd
    · exact e3 j (by omega)

theorem NumPost.none_ {s : ByteArray} {base most : Nat} {w w' : World} {v : Value} (h0 : s.size = 0)
    (hv : IsFault w' v 10 0) (hw : Below w.heap.size w w') : NumPost s base most w (.returned (.tuple #[.int .u64 0, v])) w' := by
  have e : numRes s base most = (0, 10, 0) := by rw [numRes, if_pos h0]
  exact ⟨v, by rw [e]; rfl, .inr ⟨by rw [e]; exact (by decide : (10 : Nat) ≠ 0), _, by rw [e]; exact hv⟩, hw⟩

set_option maxHeartbeats 1600000 in
set_option maxRecDepth 100000 in
theorem fold_number (s : ByteArray) (base most : Nat) (w : World) (hs : s.size ≤ 140737488351232) (hb : 2 ≤ base) (hb2 : base ≤ 16) (hm : most < 18446744073709551616) :
    Calls Tryd.prog 99 #[.string s, .int .u64 (base : Int), .int .u64 (most : Int)] w (NumPost s base most w) := by
  by_cases h0 : s.size = 0
  · have hne := isEmpty_yes h0
    have H0 := Lib.hid h0
    clear h0
    go_enter Tryd.func99, Tryd.ntmps99
    go_wp2_with fail
    refine (api_Fail' _ _ _).mono ?_
    rintro e w3 ⟨v, rfl, hv, hb3⟩
    go_wp2_with fail
    go_ret2
    exact NumPost.none_ H0.out hv hb3
  · have hne : s.toList.isEmpty = false := isEmpty_no (by omega)
    go_enter Tryd.func99, Tryd.ntmps99
    go_wp2_with ((with_reducible refine wpList_bytes (o := ⟨some 20, _, _, _, _, _⟩) rfl 9 23 5 _ rfl s rfl Tryd.underlying9 Tryd.underlying23 Tryd.underlying5 ?_); intro cap w1 hcap hB hb1 hsz1)
    have hszle : w.heap.size ≤ w1.heap.size := hb1.size
    clear hne hcap hsz1
    go_loop [6, 8, 22] (fun n o i => ∃ (k m : Nat) (ob : Bool), k ≤ s.size ∧ i = .int .i64 k ∧ n = .int .u64 m ∧ o = .bool ob ∧ m < 18446744073709551616 ∧ NumSt base s k m ob)
      (fun _ _ i => s.size - (intOf i).toNat)
    case atStart => exact ⟨0, 0, false, Nat.zero_le _, rfl, rfl, rfl, by omega, NumSt.zero _ _⟩
    case round =>
      obtain ⟨k, m, ob, hk, rfl, rfl, rfl, hm', hst⟩ := hrel
      have hcell : k < s.size → w1.cell? ⟨w.heap.size, k, none⟩ = some (.int .u8 ((byteAt s k).toNat : Int)) := fun h => hB.byte h
      by_cases hlt : k < s.size
      · have hby : (byteAt s k).toNat < 256 := (byteAt s k).toNat_lt
        by_cases hd : base ≤ valN (byteAt s k).toNat
        · go_wp2_with fail
          refine (fold_value _ hby _).mono ?_
          rintro e w2 ⟨rfl, rfl⟩
          go_wp2_with fail
          refine (api_Fail' _ _ _).mono ?_
          rintro e w3 ⟨v, rfl, hv, hb3⟩
          go_wp2_with fail
          go_ret2
          exact NumPost.bad hlt hst.2.2 hd hv (hb1.trans (hb3.mono hszle))
        · have hd' : valN (byteAt s k).toNat < base := by omega
          go_wp2_with fail
          refine (fold_value _ hby _).mono ?_
          rintro e w2 ⟨rfl, rfl⟩
          go_wp2_with fail
          refine (bits_Mul64 _ _ hm' (by omega) _).mono ?_
          rintro e w2 ⟨hi, lo, rfl, hmul, hlo, rfl⟩
          obtain ⟨sm, cy, hadd, hsum, hsm, hcy⟩ := bits_Add64 lo (valN (byteAt s k).toNat) hlo (by omega)
          have hhi : hi ≤ 15 := by
            have h1 := hmul.out
            have h2 : m * base ≤ 18446744073709551615 * 16 := Nat.mul_le_mul (by omega) hb2
            omega
          have hstep := fun o' ho => NumSt.step (by omega : 1 ≤ base) hst hd' hmul.out hsum.out hsm o' ho
          have HST := Lib.hid hstep
          clear hstep hst
          cases ob
          · go_wp2_with fail
            go_round
            case rel => exact ⟨k + 1, sm, decide (0 < hi + cy), by omega, by go_num, rfl, by congr 1; rw [decide_eq_decide]; omega, hsm, HST.out _ rfl⟩
            case measure => simp [intOf]; omega
          · go_wp2_with fail
            go_round
            case rel => exact ⟨k + 1, sm, true, by omega, by go_num, rfl, rfl, hsm, HST.out _ rfl⟩
            case measure => simp [intOf]; omega
      · obtain rfl : k = s.size := by omega
        have HST := Lib.hid hst
        clear hst
        cases ob
        · by_cases hmm : most < m
          · go_wp2_with fail
            refine (api_Fail' _ _ _).mono ?_
            rintro e w3 ⟨v, rfl, hv, hb3⟩
            go_wp2_with fail
            go_ret2
            refine NumPost.over (by omega) HST.out.2.2 ?_ hv (hb1.trans (hb3.mono hszle))
            by_cases hx : 18446744073709551616 ≤ numTo base s s.size
            · exact .inl hx
            · exact .inr (by rw [← HST.out.2.1 (by omega)]; exact hmm)
          · go_wp2_with fail
            go_ret2
            have hx : ¬ 18446744073709551616 ≤ numTo base s s.size := by
              have := HST.out.1
              simpa using this
            have hn := HST.out.2.1 (by omega)
            exact NumPost.good (by omega) HST.out.2.2 (by omega) (by rw [hn]) hb1
        · go_wp2_with fail
          refine (api_Fail' _ _ _).mono ?_
          rintro e w3 ⟨v, rfl, hv, hb3⟩
          go_wp2_with fail
          go_ret2
          have hx : 18446744073709551616 ≤ numTo base s s.size := by
            have := HST.out.1
            simpa using this
          exact NumPost.over (by omega) HST.out.2.2 (.inl hx) hv (hb1.trans (hb3.mono hszle))

theorem fold_Decimal (s : ByteArray) (most : Nat) (w : World) (hs : s.size ≤ 140737488351232) (hm : most < 18446744073709551616) :
    Calls Tryd.prog 63 #[.string s, .int .u64 (most : Int)] w (NumPost s 10 most w) := by
  go_enter Tryd.func63, Tryd.ntmps63
  go_wp2_with fail
  refine (fold_number s 10 most _ hs (by omega) (by omega) hm).mono ?_
  rintro e w1 ⟨v, rfl, hv, hb1⟩
  go_wp2_with fail
  go_ret2
  exact ⟨v, rfl, hv, hb1⟩
theorem fold_Hex (s : ByteArray) (most : Nat) (w : World) (hs : s.size ≤ 140737488351232) (hm : most < 18446744073709551616) :
    Calls Tryd.prog 183 #[.string s, .int .u64 (most : Int)] w (NumPost s 16 most w) := by
  go_enter Tryd.func183, Tryd.ntmps183
  go_wp2_with fail
  refine (fold_number s 16 most _ hs (by omega) (by omega) hm).mono ?_
  rintro e w1 ⟨v, rfl, hv, hb1⟩
  go_wp2_with fail
  go_ret2
  exact ⟨v, rfl, hv, hb1⟩

theorem cast_max : (((18446744073709551615 : Nat) : Nat) : Int) = 18446744073709551615 := rfl
theorem fold_Decimal_max (s : ByteArray) (w : World) (hs : s.size ≤ 140737488351232) : Calls Tryd.prog 63 #[.string s, .int .u64 18446744073709551615] w (NumPost s 10 18446744073709551615 w) := by
  have h := fold_Decimal s 18446744073709551615 w hs (by omega)
  rw [cast_max] at h
  exact h
theorem fold_Hex_max (s : ByteArray) (w : World) (hs : s.size ≤ 140737488351232) : Calls Tryd.prog 183 #[.string s, .int .u64 18446744073709551615] w (NumPost s 16 18446744073709551615 w) := by
  have h := fold_Hex s 18446744073709551615 w hs (by omega)
  rw [cast_max] at h
  exact h
/-- What is told where the number is right. -/
theorem NumPost.right {s : ByteArray} {base most n : Nat} {w w' : World} {e : Ending} (h : NumPost s base most w e w') (hr : numRes s base most = (n, 0, 0)) : e = .returned (.tuple #[.int .u64 (n : Int), .nilIface]) ∧ Below w.heap.size w w' := by
  obtain ⟨v, rfl, hv, hb⟩ := h
  rw [hr] at hv
  rcases hv with ⟨_, rfl⟩ | ⟨h, _⟩
  · exact ⟨by rw [hr], hb⟩
  · exact absurd rfl h
end Go.Proofs.YteabhblbefglpaaDoor
