/- puny.Decode. -/
import Derived.Test.YtbonnmkkacplgaaGreatDoorLabelNamesM7
import Derived.Lib.LastIndexByte
import Derived.Test.YtbonnmkkacplgaaGreatDoorLabelNamesM2
import Derived.Test.YtbonnmkkacplgaaGreatDoorLabelNamesM6
import Derived.Lib.SlicesCompact
import Derived.Lib.RowBridge

namespace Go.Proofs.YtbonnmkkacplgaaGreatDoor
open Go.RowKit

theorem byteAt_data {s : ByteArray} {k : Nat} (h : k < s.size) : s.data[k]! = byteAt s k := by
  have : k < s.data.size := h
  rw [getElem!_pos s.data k this]
  simp [byteAt, List.getD]
  rw [Array.getElem?_eq_getElem this]; rfl
theorem lastK_idx (s : ByteArray) : ∀ k, k ≤ s.size → lastK s k = (Lib.lastIdx s 45 k).toNat := by
  intro k
  induction k with
  | zero => intro _; rfl
  | succ k ih =>
    intro hk
    by_cases h : byteAt s k = 45
    · rw [Lib.lastIdx_hit s 45 k (by rw [byteAt_data (by omega), h]; rfl)]
      unfold lastK; rw [if_pos h]; simp
    · rw [Lib.lastIdx_miss s 45 k (by
        rw [byteAt_data (by omega)]
        intro e
        apply h
        apply UInt8.toNat_inj.1
        have : ((byteAt s k).toNat : Int) = ((45 : UInt8).toNat : Int) := e
        omega), ← ih (by omega)]
      rw [lastK, if_neg h]
theorem dec_long {s : ByteArray} {l : Nat} (h : 256 < l) : decD s l = .error (15, if 0 < l then l + 1 else 0) := by unfold decD; rw [if_pos h]
theorem dec_short {s : ByteArray} {l : Nat} (h : ¬ 256 < l) : decD s l = decF s s.size ⟨if 0 < l then l + 1 else 0, 128, 0, 72, true, headN s l⟩ := by unfold decD; rw [if_neg h]
theorem decE_long {s : ByteArray} (h : 1024 < s.size) : decE s = .error (14, 1024) := by unfold decE; rw [if_pos h]
theorem decE_high {s : ByteArray} {j : Nat} (h : ¬ 1024 < s.size) (h2 : highF s (lastK s s.size) 0 = some j) : decE s = .error (11, j) := by unfold decE; rw [if_neg h, h2]
theorem decE_low {s : ByteArray} (h : ¬ 1024 < s.size) (h2 : highF s (lastK s s.size) 0 = none) : decE s = decD s (lastK s s.size) := by unfold decE; rw [if_neg h, h2]
def DecPost (s : ByteArray) (w : World) (e : Ending) (w' : World) : Prop := Below w.heap.size w w' ∧
  ((∃ k j : Nat, ∃ v, decE s = .error (k, j) ∧ k ≠ 0 ∧ e = .returned (.tuple #[.slice none 0 0, v]) ∧ IsFault w' v k j) ∨ ∃ (l : List Nat) (v' : Value), decE s = .ok l ∧ e = .returned (.tuple #[v', .nilIface]) ∧ OwnN w' w.heap.size v' l)
theorem OwnN.base' {w : World} {base base' : Nat} {v : Value} {l : List Nat} (h : OwnN w base v l) (hb : base' ≤ base) : OwnN w base' v l := ownsRow_base h hb
theorem OwnN.below {w w' : World} {base : Nat} {v : Value} {l : List Nat} (h : OwnN w base v l) (hb : Below w.heap.size w w') : OwnN w' base v l := ownsRow_below h hb
theorem OwnN.grown {w w' : World} {base p : Nat} {v : Value} {l : List Nat} (h : OwnN w base v l) (hg : w.grownBy w' (some p)) (hp : p < base) : OwnN w' base v l :=
  World.ownsRow.kept h hg (.inr fun e => by have := (World.ownsRow.lt h p e).1; omega)
theorem OwnN.under {w0 w w' : World} {base : Nat} {v : Value} {l : List Nat} (h : OwnN w base v l) (hb : Below w0.heap.size w0 w) (hB : w0.heap.size ≤ base) (hg : w.grownBy w' v.ownBlock) : Below w0.heap.size w0 w' :=
  hb.grown hg hb.size (fun j hj => Nat.le_trans hB (World.ownsRow.lt h j hj).1)
theorem RdP.grown {w w' : World} {p a b base : Nat} {s : ByteArray} {v : Value} {l : List Nat} (h : RdP w p s a b) (ho : OwnN w base v l) (hp : p < base) (hg : w.grownBy w' v.ownBlock) : RdP w' p s a b :=
  (hg.block p (lt_of_block h) (fun e => by have := (World.ownsRow.lt ho p e.symm).1; omega)).trans h
theorem wpList_app_nat {w : World} {ops : Array Oper} {rest : List Oper} {o : Oper} {a : Act} {Q : Exit → Act → World → Prop} (hgd : o.guard = none) (s x : Operand) (ho : o.op = .call { callee := .builtin .append, args := #[s, x], argTypes := #[46, 46] })
    (base : Nat) (v : Value) (l : List Nat) (hs : a.eval s = v) (hown : OwnN w base v l) (g c : Nat) (p : Nat) (hx : a.eval x = .slice (some ⟨g, 0, none⟩) 1 c) (hb : w.heap[g]? = some (.cells #[intV p] 3 (0, 0)))
    (hl : l.length ≤ 1073741824) (hbase : base ≤ w.heap.size)
    (h : ∀ v' w', OwnN w' base v' (l ++ [p]) → w.grownBy w' v.ownBlock → wpList Tryz.prog ops Q rest (a.put o.dst v') w') : wpList Tryz.prog ops Q (o :: rest) a w := by
  obtain ⟨i, hi, hz, hsize, hby⟩ := info_parts info_int
  refine wpList_append_own _ hgd s x 46 ho base 3 i _ 1 8 Tryz.underlying46 hi hz hsize hby rfl (by decide) v _ _ hs hown _ 1 c [intV p] hx rfl ?_ ?_ (by unfold maxLen; omega) (by omega) hbase ?_
  · intro j u hj
    match j, hj with
    | 0, hj =>
      simp at hj; subst hj
      rw [Addr.add_lit, Nat.zero_add, cell_of_row w g 0 _ _ _ hb]
      rfl
  · intro u hu; simp at hu; subst hu; rfl
  · intro v' w' h1 h2 _
    refine h v' w' ?_ h2
    unfold OwnN
    rw [List.length_append, List.map_append]
    exact h1
end Go.Proofs.YtbonnmkkacplgaaGreatDoor

/- What slices.Sort and slices.Compact leave, from 128 on, are the encoding's marks; bounds of what the encoding keeps. -/
namespace Go.Proofs.YtbonnmkkacplgaaGreatDoor
open Go.Lib

theorem comp_up (d : Array Int) (hs : ∀ i j, i ≤ j → j < d.size → d[i]! ≤ d[j]!) : ∀ m, m ≤ d.size → (compactUpTo d m).Pairwise (· < ·) ∧ ∀ x, x ∈ compactUpTo d m ↔ ∃ j, j < m ∧ x = d[j]! := by
  intro m
  induction m with
  | zero => intro _; simp [compactUpTo]
  | succ m ih =>
    intro hm
    obtain ⟨h1, h2⟩ := ih (by omega)
    rw [compactUpTo_succ]
    by_cases hk : keeps d m = true
    · rw [if_pos hk]
      constructor
      · rw [List.pairwise_append]
        refine ⟨h1, by simp, fun a ha b hb => ?_⟩
        obtain ⟨j, hj, rfl⟩ := (h2 a).1 ha
        simp at hb; subst hb
        have hm0 : m ≠ 0 := by omega
        have hne : d[m]! ≠ d[m - 1]! := by
          unfold keeps at hk
          rw [decide_eq_true_eq] at hk
          exact hk.resolve_left hm0
        have k1 := hs j (m - 1) (by omega) (by omega)
        have k2 := hs (m - 1) m (by omega) (by omega)
        omega
      · intro x
        rw [List.mem_append, h2]
        constructor
        · rintro (⟨j, hj, rfl⟩ | hx)
          · exact ⟨j, by omega, rfl⟩
          · simp at hx; exact ⟨m, by omega, hx⟩
        · rintro ⟨j, hj, rfl⟩
          by_cases hjm : j = m
          · subst hjm; right; simp
          · left; exact ⟨j, by omega, rfl⟩
    · rw [if_neg hk, List.append_nil]
      refine ⟨h1, fun x => ?_⟩
      rw [h2]
      constructor
      · rintro ⟨j, hj, rfl⟩; exact ⟨j, by omega, rfl⟩
      · rintro ⟨j, hj, rfl⟩
        by_cases hjm : j = m
        · subst hjm
          have : ¬ (j = 0 ∨ d[j]! ≠ d[j - 1]!) := fun h => hk (by unfold keeps; exact decide_eq_true h)
          have hj0 : j ≠ 0 := fun e => this (.inl e)
          have he : d[j]! = d[j - 1]! := Classical.byContradiction fun e => this (.inr e)
          exact ⟨j - 1, by omega, he⟩
        · exact ⟨j, by omega, rfl⟩
def srtI (zs : List Int) : List Int := zs.mergeSort fun x y => decide (x ≤ y)
theorem srtI_len (zs : List Int) : (srtI zs).length = zs.length := List.length_mergeSort _
theorem srtI_up (zs : List Int) : (srtI zs).Pairwise (· ≤ ·) := by
  have := List.pairwise_mergeSort (le := fun x y : Int => decide (x ≤ y)) (fun a b c h1 h2 => by simp at h1 h2 ⊢; omega) (fun a b => by simp; omega) zs
  exact this.imp (fun h => by simpa using h)
theorem srtI_mem (zs : List Int) (x : Int) : x ∈ srtI zs ↔ x ∈ zs := List.mem_mergeSort
theorem compact_facts (zs : List Int) : (compact (srtI zs)).Pairwise (· < ·) ∧ ∀ x, x ∈ compact (srtI zs) ↔ x ∈ zs := by
  have hp := srtI_up zs
  obtain ⟨h1, h2⟩ := comp_up (srtI zs).toArray (fun i j hij hj => by
    have hj' : j < (srtI zs).length := by simpa using hj
    rw [getElem!_pos (srtI zs).toArray j (by simpa using hj'), getElem!_pos (srtI zs).toArray i (by simp; omega)]
    by_cases e : i = j
    · subst e; exact Int.le_refl _
    · simpa using List.pairwise_iff_getElem.1 hp i j (by omega) hj' (by omega)) (srtI zs).length (by simp)
  refine ⟨h1, fun x => ?_⟩
  rw [← srtI_mem zs x]
  refine (h2 x).trans ⟨?_, fun hx => ?_⟩
  · rintro ⟨j, hj, rfl⟩
    rw [getElem!_pos (srtI zs).toArray j (by simpa using hj)]
    simp
  · obtain ⟨j, hj, rfl⟩ := List.mem_iff_getElem.1 hx
    exact ⟨j, hj, by rw [getElem!_pos (srtI zs).toArray j (by simpa using hj)]; simp⟩
def remL (l : List Int) : List Nat := (l.filter fun x => decide (128 ≤ x)).map Int.toNat
theorem remL_cons_lt {x : Int} {l : List Int} (h : x < 128) : remL (x :: l) = remL l := by
  unfold remL; rw [List.filter_cons, if_neg (by simp; omega)]
theorem remL_cons_ge {x : Int} {l : List Int} (h : ¬ x < 128) : remL (x :: l) = x.toNat :: remL l := by
  unfold remL; rw [List.filter_cons, if_pos (by simp; omega)]; rfl
theorem marks_of (zs : List Int) (h : ∀ z ∈ zs, 0 ≤ z) : remL (compact (srtI zs)) = markL (nats zs) := by
  obtain ⟨h1, h2⟩ := compact_facts zs
  refine up_unique _ _ ?_ (markL_up _) fun x => ?_
  · unfold remL
    rw [List.pairwise_map]
    refine (h1.filter _).imp_of_mem fun {a b} ha hb hab => ?_
    have := (List.mem_filter.1 ha).2
    simp at this
    omega
  · rw [markL_mem]
    unfold remL nats
    rw [List.mem_map, List.mem_map]
    constructor
    · rintro ⟨a, ha, rfl⟩
      obtain ⟨h3, h4⟩ := List.mem_filter.1 ha
      simp at h4
      exact ⟨⟨a, (h2 a).1 h3, rfl⟩, by omega⟩
    · rintro ⟨⟨a, ha, rfl⟩, h5⟩
      exact ⟨a, List.mem_filter.2 ⟨(h2 a).2 ha, by simp; omega⟩, rfl⟩

/-- What is kept is within bounds, before a round. -/
def PInv (cs : List Nat) (n : Nat) (s : PSt) : Prop := s.delta ≤ 257 * n ∧ s.bias ≤ 20000000000 ∧ s.h ≤ (cs.filter fun c => decide (c < n)).length ∧ s.out.length ≤ 257 + 10 * s.h
/-- .. and in one, behind so many characters. -/
def PIn (cs : List Nat) (m k : Nat) (s : PSt) : Prop := s.delta ≤ 257 * m + k ∧ s.bias ≤ 20000000000 ∧ s.h ≤ (cs.filter fun c => decide (c < m)).length + (cs.take k).count m ∧ s.out.length ≤ 257 + 10 * s.h
theorem below_count (cs : List Nat) (m : Nat) : (cs.filter fun c => decide (c < m)).length + cs.count m ≤ (cs.filter fun c => decide (c < m + 1)).length := by
  induction cs with
  | nil => simp
  | cons c cs ih =>
    rw [List.filter_cons, List.filter_cons, List.count_cons]
    by_cases h1 : c < m
    · rw [if_pos (by simpa using h1), if_neg (by simp; omega), if_pos (by simp; omega)]
      simp only [List.length_cons]; omega
    · rw [if_neg (by simpa using h1)]
      by_cases h2 : c = m
      · subst h2; rw [if_pos (by simp), if_pos (by simp)]; simp only [List.length_cons]; omega
      · rw [if_neg (by simp; omega), if_neg (by simp; omega)]; omega
theorem below_mono (cs : List Nat) {n m : Nat} (h : n ≤ m) : (cs.filter fun c => decide (c < n)).length ≤ (cs.filter fun c => decide (c < m)).length := by
  induction cs with
  | nil => simp
  | cons c cs ih =>
    rw [List.filter_cons, List.filter_cons]
    by_cases h1 : c < n
    · rw [if_pos (by simpa using h1), if_pos (by simp; omega)]; simp only [List.length_cons]; omega
    · rw [if_neg (by simpa using h1)]
      split
      · simp only [List.length_cons]; omega
      · exact ih
theorem below_all (cs : List Nat) (m : Nat) : (cs.filter fun c => decide (c < m)).length + cs.count m ≤ cs.length := by
  have := below_count cs m
  have h2 : (cs.filter fun c => decide (c < m + 1)).length ≤ cs.length := List.length_filter_le _ _
  omega
theorem count_take (cs : List Nat) (m k : Nat) : (cs.take k).count m ≤ cs.count m := (List.take_sublist k cs).count_le m
theorem PIn.h_le {cs : List Nat} {m k : Nat} {s : PSt} (h : PIn cs m k s) : s.h ≤ cs.length := by
  have h1 := below_all cs m
  have h2 := count_take cs m k
  have := h.2.2.1
  omega
theorem PInv.start {cs : List Nat} {n m : Nat} {s : PSt} (h : PInv cs n s) (hl : cs.length ≤ 256) (hm : n ≤ m) : PIn cs m 0 ⟨s.delta + (m - n) * (s.h + 1), s.bias, s.h, s.out⟩ := by
  obtain ⟨h1, h2, h3, h4⟩ := h
  have h5 : (cs.filter fun c => decide (c < n)).length ≤ cs.length := List.length_filter_le _ _
  have h6 : (m - n) * (s.h + 1) ≤ (m - n) * 257 := Nat.mul_le_mul_left _ (by omega)
  refine ⟨?_, h2, ?_, h4⟩
  · dsimp only; omega
  · dsimp only
    have := below_mono cs hm
    simp; omega
theorem PIn.step {cs : List Nat} {m k c basic : Nat} {s : PSt} (h : PIn cs m k s) (hm : m ≤ 1114111) (hl : cs.length ≤ 256) (hk : cs[k]? = some c) : PIn cs m (k + 1) (stepC m basic s c) := by
  have hkl := (List.getElem?_eq_some_iff.1 hk).1
  obtain ⟨h1, h2, h3, h4⟩ := h
  have hc : (cs.take (k + 1)).count m = (cs.take k).count m + if c = m then 1 else 0 := by
    rw [List.take_add_one, hk, List.count_append]
    congr 1
    by_cases e : c = m
    · subst e; simp
    · simp [e]
  unfold PIn stepC
  rw [hc]
  by_cases a : c < m
  · rw [if_pos a, if_neg (by omega)]
    exact ⟨by dsimp only; omega, h2, by dsimp only; omega, h4⟩
  · rw [if_neg a]
    by_cases b : c = m
    · rw [if_pos b, if_pos b]
      have hd : s.delta < 1000000000 := by omega
      have hn := numD_len (b := s.bias) hd
      have hb := adaptN_le s.delta (s.h + 1) (decide (s.h = basic))
      refine ⟨Nat.zero_le _, ?_, ?_, ?_⟩
      · dsimp only; omega
      · dsimp only; omega
      · dsimp only; rw [List.length_append]; omega
    · rw [if_neg b, if_neg b]
      exact ⟨by omega, h2, by omega, h4⟩
theorem PIn.next {cs : List Nat} {m : Nat} {s : PSt} (h : PIn cs m cs.length s) (hl : cs.length ≤ 256) : PInv cs (m + 1) (nextC s) := by
  obtain ⟨h1, h2, h3, h4⟩ := h
  rw [List.take_length] at h3
  have := below_count cs m
  exact ⟨by unfold nextC; dsimp only; omega, h2, by unfold nextC; dsimp only; omega, h4⟩
def roundK (cs : List Nat) (basic m n : Nat) (s : PSt) (k : Nat) : PSt := (cs.take k).foldl (stepC m basic) ⟨s.delta + (m - n) * (s.h + 1), s.bias, s.h, s.out⟩
theorem roundK_zero (cs : List Nat) (basic m n : Nat) (s : PSt) : roundK cs basic m n s 0 = ⟨s.delta + (m - n) * (s.h + 1), s.bias, s.h, s.out⟩ := rfl
theorem roundK_succ {cs : List Nat} {basic m n k c : Nat} {s : PSt} (h : cs[k]? = some c) : roundK cs basic m n s (k + 1) = stepC m basic (roundK cs basic m n s k) c := by
  unfold roundK; rw [List.take_add_one, h, List.foldl_append]; rfl
theorem roundK_all (cs : List Nat) (basic m n : Nat) (s : PSt) : roundK cs basic m n s cs.length = roundC cs basic m n s := by
  unfold roundK roundC; rw [List.take_length]
theorem basicL_len (cs : List Nat) : (basicL cs).length = (cs.filter fun c => decide (c < 128)).length := by unfold basicL; rw [List.length_map]
theorem PInv.zero (cs : List Nat) (hl : cs.length ≤ 256) : PInv cs 128 ⟨0, 72, (basicL cs).length, basicO cs⟩ := by
  refine ⟨Nat.zero_le _, by dsimp only; omega, by dsimp only; rw [basicL_len]; exact Nat.le_refl _, ?_⟩
  have h := basicL_len cs
  have h2 : (cs.filter fun c => decide (c < 128)).length ≤ cs.length := List.length_filter_le _ _
  unfold basicO
  dsimp only
  split
  · simp
  · rw [List.length_append]; simp; omega
theorem basicL_snoc {cs : List Nat} {k c : Nat} (h : cs[k]? = some c) : basicL (cs.take (k + 1)) = if c < 128 then basicL (cs.take k) ++ [UInt8.ofNat c] else basicL (cs.take k) := by
  unfold basicL
  rw [List.take_add_one, h, List.filter_append, List.map_append]
  by_cases hc : c < 128
  · rw [if_pos hc]; simp [hc]
  · rw [if_neg hc]; simp [hc]
end Go.Proofs.YtbonnmkkacplgaaGreatDoor
