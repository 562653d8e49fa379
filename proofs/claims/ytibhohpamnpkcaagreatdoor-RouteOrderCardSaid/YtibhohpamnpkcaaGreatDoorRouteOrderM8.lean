/- What slices.Sort and slices.Compact leave, from 128 on, are the encoding's marks; bounds of what the encoding keeps. -/
import Derived.Test.YtibhohpamnpkcaaGreatDoorRouteOrderM6
import Derived.Lib.SlicesCompact
import Derived.Lib.RowBridge
import Derived.Test.YtibhohpamnpkcaaGreatDoorRouteOrderM7
import Derived.Sort.OwnSortedInts

namespace Go.Proofs.YtibhohpamnpkcaaGreatDoor
open Go.Lib

theorem comp_up (d : Array Int) (hs : ∀ i j, i ≤ j → j < d.size → d[i]! ≤ d[j]!) : ∀ m, m ≤ d.size → (compactUpTo d m).Pairwise (· < ·) ∧ ∀ x, x ∈ compactUpTo d m ↔ ∃ j, j < m ∧ x = d[j]! := by
  intro m
  induction m with
  | zero => intro _; simp [compactUpTo]
  | succ m ih =>
    intro hm
    obtain ⟨h1, h2⟩ := ih (by omega)
    rw [compactUpTo_succ]
    by_cases hk : keeps d m = true
    · rw [if_pos hk]
      constructor
      · rw [List.pairwise_append]
        refine ⟨h1, by simp, fun a ha b hb => ?_⟩
        obtain ⟨j, hj, rfl⟩ := (h2 a).1 ha
        simp at hb; subst hb
        have hm0 : m ≠ 0 := by omega
        have hne : d[m]! ≠ d[m - 1]! := by
          unfold keeps at hk
          rw [decide_eq_true_eq] at hk
          exact hk.resolve_left hm0
        have k1 := hs j (m - 1) (by omega) (by omega)
        have k2 := hs (m - 1) m (by omega) (by omega)
        omega
      · intro x
        rw [List.mem_append, h2]
        constructor
        · rintro (⟨j, hj, rfl⟩ | hx)
          · exact ⟨j, by omega, rfl⟩
          · simp at hx; exact ⟨m, by omega, hx⟩
        · rintro ⟨j, hj, rfl⟩
          by_cases hjm : j = m
          · subst hjm; right; simp
          · left; exact ⟨j, by omega, rfl⟩
    · rw [if_neg hk, List.append_nil]
      refine ⟨h1, fun x => ?_⟩
      rw [h2]
      constructor
      · rintro ⟨j, hj, rfl⟩; exact ⟨j, by omega, rfl⟩
      · rintro ⟨j, hj, rfl⟩
        by_cases hjm : j = m
        · subst hjm
          have : ¬ (j = 0 ∨ d[j]! ≠ d[j - 1]!) := fun h => hk (by unfold keeps; exact decide_eq_true h)
          have hj0 : j ≠ 0 := fun e => this (.inl e)
          have he : d[j]! = d[j - 1]! := Classical.byContradiction fun e => this (.inr e)
          exact ⟨j - 1, by omega, he⟩
        · exact ⟨j, by omega, rfl⟩
def srtI (zs : List Int) : List Int := zs.mergeSort fun x y => decide (x ≤ y)
theorem srtI_len (zs : List Int) : (srtI zs).length = zs.length := List.length_mergeSort _
theorem srtI_up (zs : List Int) : (srtI zs).Pairwise (· ≤ ·) := by
  have := List.pairwise_mergeSort (le := fun x y : Int => decide (x ≤ y)) (fun a b c h1 h2 => by simp at h1 h2 ⊢; omega) (fun a b => by simp; omega) zs
  exact this.imp (fun h => by simpa using h)
theorem srtI_mem (zs : List Int) (x : Int) : x ∈ srtI zs ↔ x ∈ zs := List.mem_mergeSort
theorem compact_facts (zs : List Int) : (compact (srtI zs)).Pairwise (· < ·) ∧ ∀ x, x ∈ compact (srtI zs) ↔ x ∈ zs := by
  have hp := srtI_up zs
  obtain ⟨h1, h2⟩ := comp_up (srtI zs).toArray (fun i j hij hj => by
    have hj' : j < (srtI zs).length := by simpa using hj
    rw [getElem!_pos (srtI zs).toArray j (by simpa using hj'), getElem!_pos (srtI zs).toArray i (by simp; omega)]
    by_cases e : i = j
    · subst e; exact Int.le_refl _
    · simpa using List.pairwise_iff_getElem.1 hp i j (by omega) hj' (by omega)) (srtI zs).length (by simp)
  refine ⟨h1, fun x => ?_⟩
  rw [← srtI_mem zs x]
  refine (h2 x).trans ⟨?_, fun hx => ?_⟩
  · rintro ⟨j, hj, rfl⟩
    rw [getElem!_pos (srtI zs).toArray j (by simpa using hj)]
    simp
  · obtain ⟨j, hj, rfl⟩ := List.mem_iff_getElem.1 hx
    exact ⟨j, hj, by rw [getElem!_pos (srtI zs).toArray j (by simpa using hj)]; simp⟩
def remL (l : List Int) : List Nat := (l.filter fun x => decide (128 ≤ x)).map Int.toNat
theorem remL_cons_lt {x : Int} {l : List Int} (h : x < 128) : remL (x :: l) = remL l := by
  unfold remL; rw [List.filter_cons, if_neg (by simp; omega)]
theorem remL_cons_ge {x : Int} {l : List Int} (h : ¬ x < 128) : remL (x :: l) = x.toNat :: remL l := by
  unfold remL; rw [List.filter_cons, if_pos (by simp; omega)]; rfl
theorem marks_of (zs : List Int) (h : ∀ z ∈ zs, 0 ≤ z) : remL (compact (srtI zs)) = markL (nats zs) := by
  obtain ⟨h1, h2⟩ := compact_facts zs
  refine up_unique _ _ ?_ (markL_up _) fun x => ?_
  · unfold remL
    rw [List.pairwise_map]
    refine (h1.filter _).imp_of_mem fun {a b} ha hb hab => ?_
    have := (List.mem_filter.1 ha).2
    simp at this
    omega
  · rw [markL_mem]
    unfold remL nats
    rw [List.mem_map, List.mem_map]
    constructor
    · rintro ⟨a, ha, rfl⟩
      obtain ⟨h3, h4⟩ := List.mem_filter.1 ha
      simp at h4
      exact ⟨⟨a, (h2 a).1 h3, rfl⟩, by omega⟩
    · rintro ⟨⟨a, ha, rfl⟩, h5⟩
      exact ⟨a, List.mem_filter.2 ⟨(h2 a).2 ha, by simp; omega⟩, rfl⟩

/-- What is kept is within bounds, before a round. -/
def PInv (cs : List Nat) (n : Nat) (s : PStp) : Prop := s.delta ≤ 257 * n ∧ s.bias ≤ 20000000000 ∧ s.h ≤ (cs.filter fun c => decide (c < n)).length ∧ s.out.length ≤ 257 + 10 * s.h
/-- .. and in one, behind so many characters. -/
def PIn (cs : List Nat) (m k : Nat) (s : PStp) : Prop := s.delta ≤ 257 * m + k ∧ s.bias ≤ 20000000000 ∧ s.h ≤ (cs.filter fun c => decide (c < m)).length + (cs.take k).count m ∧ s.out.length ≤ 257 + 10 * s.h
theorem below_count (cs : List Nat) (m : Nat) : (cs.filter fun c => decide (c < m)).length + cs.count m ≤ (cs.filter fun c => decide (c < m + 1)).length := by
  induction cs with
  | nil => simp
  | cons c cs ih =>
    rw [List.filter_cons, List.filter_cons, List.count_cons]
    by_cases h1 : c < m
    · rw [if_pos (by simpa using h1), if_neg (by simp; omega), if_pos (by simp; omega)]
      simp only [List.length_cons]; omega
    · rw [if_neg (by simpa using h1)]
      by_cases h2 : c = m
      · subst h2; rw [if_pos (by simp), if_pos (by simp)]; simp only [List.length_cons]; omega
      · rw [if_neg (by simp; omega), if_neg (by simp; omega)]; omega
theorem below_mono (cs : List Nat) {n m : Nat} (h : n ≤ m) : (cs.filter fun c => decide (c < n)).length ≤ (cs.filter fun c => decide (c < m)).length := by
  induction cs with
  | nil => simp
  | cons c cs ih =>
    rw [List.filter_cons, List.filter_cons]
    by_cases h1 : c < n
    · rw [if_pos (by simpa using h1), if_pos (by simp; omega)]; simp only [List.length_cons]; omega
    · rw [if_neg (by simpa using h1)]
      split
      · simp only [List.length_cons]; omega
      · exact ih
theorem below_all (cs : List Nat) (m : Nat) : (cs.filter fun c => decide (c < m)).length + cs.count m ≤ cs.length := by
  have := below_count cs m
  have h2 : (cs.filter fun c => decide (c < m + 1)).length ≤ cs.length := List.length_filter_le _ _
  omega
theorem count_take (cs : List Nat) (m k : Nat) : (cs.take k).count m ≤ cs.count m := (List.take_sublist k cs).count_le m
theorem PIn.h_le {cs : List Nat} {m k : Nat} {s : PStp} (h : PIn cs m k s) : s.h ≤ cs.length := by
  have h1 := below_all cs m
  have h2 := count_take cs m k
  have := h.2.2.1
  omega
theorem PInv.start {cs : List Nat} {n m : Nat} {s : PStp} (h : PInv cs n s) (hl : cs.length ≤ 256) (hm : n ≤ m) : PIn cs m 0 ⟨s.delta + (m - n) * (s.h + 1), s.bias, s.h, s.out⟩ := by
  obtain ⟨h1, h2, h3, h4⟩ := h
  have h5 : (cs.filter fun c => decide (c < n)).length ≤ cs.length := List.length_filter_le _ _
  have h6 : (m - n) * (s.h + 1) ≤ (m - n) * 257 := Nat.mul_le_mul_left _ (by omega)
  refine ⟨?_, h2, ?_, h4⟩
  · dsimp only; omega
  · dsimp only
    have := below_mono cs hm
    simp; omega
theorem PIn.step {cs : List Nat} {m k c basic : Nat} {s : PStp} (h : PIn cs m k s) (hm : m ≤ 1114111) (hl : cs.length ≤ 256) (hk : cs[k]? = some c) : PIn cs m (k + 1) (stepC m basic s c) := by
  have hkl := (List.getElem?_eq_some_iff.1 hk).1
  obtain ⟨h1, h2, h3, h4⟩ := h
  have hc : (cs.take (k + 1)).count m = (cs.take k).count m + if c = m then 1 else 0 := by
    rw [List.take_add_one, hk, List.count_append]
    congr 1
    by_cases e : c = m
    · subst e; simp
    · simp [e]
  unfold PIn stepC
  rw [hc]
  by_cases a : c < m
  · rw [if_pos a, if_neg (by omega)]
    exact ⟨by dsimp only; omega, h2, by dsimp only; omega, h4⟩
  · rw [if_neg a]
    by_cases b : c = m
    · rw [if_pos b, if_pos b]
      have hd : s.delta < 1000000000 := by omega
      have hn := numD_len (b := s.bias) hd
      have hb := adaptN_le s.delta (s.h + 1) (decide (s.h = basic))
      refine ⟨Nat.zero_le _, ?_, ?_, ?_⟩
      · dsimp only; omega
      · dsimp only; omega
      · dsimp only; rw [List.length_append]; omega
    · rw [if_neg b, if_neg b]
      exact ⟨by omega, h2, by omega, h4⟩
theorem PIn.next {cs : List Nat} {m : Nat} {s : PStp} (h : PIn cs m cs.length s) (hl : cs.length ≤ 256) : PInv cs (m + 1) (nextC s) := by
  obtain ⟨h1, h2, h3, h4⟩ := h
  rw [List.take_length] at h3
  have := below_count cs m
  exact ⟨by unfold nextC; dsimp only; omega, h2, by unfold nextC; dsimp only; omega, h4⟩
def roundK (cs : List Nat) (basic m n : Nat) (s : PStp) (k : Nat) : PStp := (cs.take k).foldl (stepC m basic) ⟨s.delta + (m - n) * (s.h + 1), s.bias, s.h, s.out⟩
theorem roundK_zero (cs : List Nat) (basic m n : Nat) (s : PStp) : roundK cs basic m n s 0 = ⟨s.delta + (m - n) * (s.h + 1), s.bias, s.h, s.out⟩ := rfl
theorem roundK_succ {cs : List Nat} {basic m n k c : Nat} {s : PStp} (h : cs[k]? = some c) : roundK cs basic m n s (k + 1) = stepC m basic (roundK cs basic m n s k) c := by
  unfold roundK; rw [List.take_add_one, h, List.foldl_append]; rfl
theorem roundK_all (cs : List Nat) (basic m n : Nat) (s : PStp) : roundK cs basic m n s cs.length = roundC cs basic m n s := by
  unfold roundK roundC; rw [List.take_length]
theorem basicL_len (cs : List Nat) : (basicL cs).length = (cs.filter fun c => decide (c < 128)).length := by unfold basicL; rw [List.length_map]
theorem PInv.zero (cs : List Nat) (hl : cs.length ≤ 256) : PInv cs 128 ⟨0, 72, (basicL cs).length, basicO cs⟩ := by
  refine ⟨Nat.zero_le _, by dsimp only; omega, by dsimp only; rw [basicL_len]; exact Nat.le_refl _, ?_⟩
  have h := basicL_len cs
  have h2 : (cs.filter fun c => decide (c < 128)).length ≤ cs.length := List.length_filter_le _ _
  unfold basicO
  dsimp only
  split
  · simp
  · rw [List.length_append]; simp; omega
theorem basicL_snoc {cs : List Nat} {k c : Nat} (h : cs[k]? = some c) : basicL (cs.take (k + 1)) = if c < 128 then basicL (cs.take k) ++ [UInt8.ofNat c] else basicL (cs.take k) := by
  unfold basicL
  rw [List.take_add_one, h, List.filter_append, List.map_append]
  by_cases hc : c < 128
  · rw [if_pos hc]; simp [hc]
  · rw [if_neg hc]; simp [hc]
end Go.Proofs.YtibhohpamnpkcaaGreatDoor

/- puny.Encode. -/
namespace Go.Proofs.YtibhohpamnpkcaaGreatDoor
open Go.RowKit

def encE (zs : List Int) : Except (Nat × Nat) (List UInt8) :=
  if 256 < zs.length then .error (14, 256) else if rightLen zs < zs.length then .error (16, rightLen zs) else .ok (encN (nats zs))
def EncPost (zs : List Int) (w : World) (e : Ending) (w' : World) : Prop := Below w.heap.size w w' ∧
  ((∃ k i : Nat, ∃ v, encE zs = .error (k, i) ∧ k ≠ 0 ∧ e = .returned (.tuple #[.string ⟨#[]⟩, v]) ∧ IsFault w' v k i) ∨ ∃ l : List UInt8, encE zs = .ok l ∧ e = .returned (.tuple #[.string ⟨l.toArray⟩, .nilIface]))
theorem encE_long {zs : List Int} (h : 256 < zs.length) : encE zs = .error (14, 256) := by unfold encE; rw [if_pos h]
theorem encE_bad {zs : List Int} {i : Nat} (h : ¬ 256 < zs.length) (h2 : rightLen zs = i) (h3 : i < zs.length) : encE zs = .error (16, i) := by unfold encE; rw [if_neg h, if_pos (by omega), h2]
theorem encE_ok {zs : List Int} (h : ¬ 256 < zs.length) (h2 : rightLen zs = zs.length) : encE zs = .ok (encN (nats zs)) := by unfold encE; rw [if_neg h, if_neg (by omega)]
theorem conv_u8 {c : Nat} (h : c < 128) : ((UInt8.ofNat c).toNat : Int) = (c : Int) := by rw [UInt8.toNat_ofNat_of_lt' (show c < 256 by omega)]
/-- Clone, Sort and Compact of a row of ints, and what is left. -/
def MarkRow (w : World) (g : Nat) (cp : List Int) : Prop := g < w.heap.size ∧ ∀ j, j < cp.length → w.cell? ⟨g, 0 + j, none⟩ = some (.int .i64 (cp.getD j 0))
theorem MarkRow.but {w w' : World} {g : Nat} {cp : List Int} (h : MarkRow w g cp) (hs : w.heap.size ≤ w'.heap.size) (hb : w'.heap[g]? = w.heap[g]?) : MarkRow w' g cp :=
  ⟨Nat.lt_of_lt_of_le h.1 hs, fun j hj => (World.cell?_of_block hb).trans (h.2 j hj)⟩

theorem beq_dec (a b : Nat) : ((a : Int) == (b : Int)) = decide (a = b) := by
  by_cases h : a = b
  · subst h; simp
  · rw [decide_eq_false h, beq_eq_false_iff_ne]; omega
theorem own_Holds {w : World} {g : Nat} {cur : Array Value} {zs : List Int} (hh : w.heap[g]? = some (.cells cur 3 (0, 0))) (ht : cur.toList.take zs.length = zs.map (Value.int .i64)) : Go.Sort.Holds (Value.int .i64) w g 0 zs.toArray :=
  holds_of_blockI hh ht
theorem sorted_Holds {w : World} {g n : Nat} {os : Array Obj} {zs ts : List Int} (hl : ts.length = zs.length) (hg : g < w.heap.size) (h : Go.Sort.Holds (Value.int .i64) w g 0 zs.toArray) :
    Go.Sort.Holds (Value.int .i64) (Go.Sort.grow (Go.Sort.putRow (Value.int .i64) (Go.Sort.ahead w n) g 0 ts.toArray) os) g 0 ts.toArray :=
  Go.Sort.holds_grow _ _ _ _ _ _ (by rw [Go.Sort.size_putRow]; exact hg) (Go.Sort.holds_putRow _ _ _ _ _ _ (Go.Sort.holds_ahead _ _ _ _ _ _ h) (by simp [hl]))
theorem compact_row {w : World} {g q : Nat} {ss cp : List Int} (hl : cp.length ≤ ss.length) (hg : g < w.heap.size) (h : Go.Sort.Holds (Value.int .i64) w g 0 ss.toArray) :
    MarkRow (Go.Sort.putRow (Value.int .i64) (Go.Sort.ahead w q) g 0 (cp ++ List.replicate (ss.length - cp.length) 0).toArray) g cp ∧ w.grownBy (Go.Sort.putRow (Value.int .i64) (Go.Sort.ahead w q) g 0 (cp ++ List.replicate (ss.length - cp.length) 0).toArray) (some g) := by
  have hH := Go.Sort.holds_putRow (Value.int .i64) (Go.Sort.ahead w q) g 0 ss.toArray (cp ++ List.replicate (ss.length - cp.length) 0).toArray (Go.Sort.holds_ahead _ _ _ _ _ _ h) (by simp; omega)
  refine ⟨⟨by rw [Go.Sort.size_putRow]; exact hg, fun j hj => ?_⟩, ?_⟩
  · have hj2 : j < (cp ++ List.replicate (ss.length - cp.length) (0 : Int)).toArray.size := by simp; omega
    have := (hH j hj2).1
    rw [getElem!_pos _ j hj2] at this
    rw [this]
    simp [List.getElem_append, hj, List.getD]
  · have := grownBy_sortedI (w := w) (g := g) (n := q) (os := #[]) (cp ++ List.replicate (ss.length - cp.length) 0).toArray
    rwa [Go.Sort.grow_empty] at this
theorem mul_int (d m n h : Nat) (hm : n ≤ m) (h1 : d ≤ 300000000) (h2 : m ≤ 1114111) (h3 : h ≤ 256) : wrap64 ((d : Int) + wrap64 (((m : Int) - (n : Int)) * ((h : Int) + 1))) = ((d + (m - n) * (h + 1) : Nat) : Int) := by
  have e : ((m : Int) - (n : Int)) * ((h : Int) + 1) = (((m - n) * (h + 1) : Nat) : Int) := by
    rw [Int.natCast_mul]; congr 1; omega
  have hle : (m - n) * (h + 1) ≤ 1114111 * 257 := Nat.mul_le_mul (by omega) (by omega)
  rw [e]
  generalize (m - n) * (h + 1) = q at *
  rw [wrap64_inA (q : Int) (by omega) (by omega), wrap64_inA _ (by omega) (by omega)]
  simp

end Go.Proofs.YtibhohpamnpkcaaGreatDoor

/- What was encoded stands for its characters. -/
namespace Go.Proofs.YtibhohpamnpkcaaGreatDoor
open Go.RowKit

theorem valN_digN {n : Nat} (h : n < 36) : valNp (digN n) = some n := by
  have : ∀ n : Fin 36, valNp (digN n.1) = some n.1 := by decide +kernel
  exact this ⟨n, h⟩
theorem valN_mark : valNp 45 = none := by decide
/-- Bytes from a place on that read as these digits. -/
def ReadsAs (s : ByteArray) (a : Nat) (l : List UInt8) : Prop := a + l.length ≤ s.size ∧ ∀ k, k < l.length → valNp (byteAt s (a + k)) = valNp (l.getD k 0)
theorem ReadsAs.head {s : ByteArray} {a : Nat} {c : UInt8} {l : List UInt8} (h : ReadsAs s a (c :: l)) : a < s.size ∧ valNp (byteAt s a) = valNp c ∧ ReadsAs s (a + 1) l := by
  obtain ⟨h1, h2⟩ := h
  simp only [List.length_cons] at h1 h2
  refine ⟨by omega, h2 0 (by omega), by omega, fun k hk => ?_⟩
  have := h2 (k + 1) (by omega)
  rw [show a + 1 + k = a + (k + 1) by omega]
  simpa using this
theorem weight_ok {n w t : Nat} (h1 : n * w ≤ 286326784) (ht1 : 1 ≤ t) (ht : t ≤ n) (hj : t ≤ 25 → ∃ j, w = 35 ^ j) : ¬ 2147483647 < w * (36 - t) := by
  have h2 : w * t ≤ 286326784 := Nat.le_trans (by rw [Nat.mul_comm]; exact Nat.mul_le_mul_right _ ht) h1
  by_cases h5 : 5 ≤ t
  · have a : w * 5 ≤ w * t := Nat.mul_le_mul_left _ h5
    have b : w * (36 - t) ≤ w * 31 := Nat.mul_le_mul_left _ (by omega)
    omega
  · obtain ⟨j, rfl⟩ := hj (by omega)
    have h6 : (35 : Nat) ^ 6 = 1838265625 := by decide
    have h7 : (35 : Nat) ^ 5 = 52521875 := by decide
    have hj5 : j ≤ 5 := by
      apply Nat.le_of_lt_succ
      apply (Nat.pow_lt_pow_iff_right (show 1 < 35 by decide)).1
      have hm : 35 ^ j * 1 ≤ 35 ^ j * t := Nat.mul_le_mul_left _ ht1
      rw [h6]
      generalize 35 ^ j = q at *
      omega
    have hp : 35 ^ j ≤ 35 ^ 5 := Nat.pow_le_pow_right (by decide) hj5
    have b : 35 ^ j * (36 - t) ≤ 35 ^ j * 35 := Nat.mul_le_mul_left _ (by omega)
    rw [h7] at hp
    generalize 35 ^ j = q at *
    omega
theorem rd_num (s : ByteArray) (b : Nat) : ∀ (f n k w n0 a g : Nat), ReadsAs s a (numLp f n k b) → n ≤ f → (numLp f n k b).length ≤ g → n0 + n * w ≤ 286326784 → (thrN k b ≤ 25 → ∃ j, w = 35 ^ j) →
    rdF s b g a n0 w k = .ok (n0 + n * w, a + (numLp f n k b).length) := by
  intro f
  induction f with
  | zero =>
    intro n k w n0 a g hR hn hg hN hj
    obtain rfl : n = 0 := by omega
    have ht := thrN_range k b
    rw [numL_last (by omega)] at hR hg ⊢
    obtain ⟨g, rfl⟩ : ∃ g', g = g' + 1 := ⟨g - 1, by simp at hg; omega⟩
    obtain ⟨h1, h2, _⟩ := hR.head
    rw [valN_digN (by decide)] at h2
    rw [rd_ok h1 h2 (by omega) (by omega)]
    rfl
  | succ f ih =>
    intro n k w n0 a g hR hn hg hN hj
    have HJ := Lib.hid hj
    clear hj
    have ht := thrN_range k b
    by_cases h : n < thrN k b
    · rw [numL_last h] at hR hg ⊢
      obtain ⟨g, rfl⟩ : ∃ g', g = g' + 1 := ⟨g - 1, by simp at hg; omega⟩
      obtain ⟨h1, h2, _⟩ := hR.head
      rw [valN_digN (by omega)] at h2
      rw [rd_ok h1 h2 (by omega) h]
      rfl
    · rw [numL_more h] at hR hg ⊢
      obtain ⟨g, rfl⟩ : ∃ g', g = g' + 1 := ⟨g - 1, by simp at hg; omega⟩
      obtain ⟨h1, h2, h3⟩ := hR.head
      have hlt := num_less h
      have hml : (n - thrN k b) % (36 - thrN k b) < 36 - thrN k b := Nat.mod_lt _ (by omega)
      have hdm := Nat.mod_add_div (n - thrN k b) (36 - thrN k b)
      rw [valN_digN (by omega)] at h2
      have hW := weight_ok (n := n) (w := w) (t := thrN k b) (by omega) ht.1 (by omega) HJ.out
      have hj2 : thrN (k + 36) b ≤ 25 → ∃ j, w * (36 - thrN k b) = 35 ^ j := fun h25 => by
        have h1 : thrN k b = 1 := by unfold thrN at h25 ⊢; omega
        obtain ⟨j, rfl⟩ := HJ.out (by omega)
        exact ⟨j + 1, by rw [h1, Nat.pow_succ]⟩
      have HJ2 := Lib.hid hj2
      clear hj2
      have e : n * w = (thrN k b + (n - thrN k b) % (36 - thrN k b)) * w + (n - thrN k b) / (36 - thrN k b) * (w * (36 - thrN k b)) := by
        have e1 : n = thrN k b + (n - thrN k b) % (36 - thrN k b) + (36 - thrN k b) * ((n - thrN k b) / (36 - thrN k b)) := by
          rw [Nat.add_assoc, hdm]; omega
        calc n * w = (thrN k b + (n - thrN k b) % (36 - thrN k b) + (36 - thrN k b) * ((n - thrN k b) / (36 - thrN k b))) * w := by rw [← e1]
          _ = _ := by rw [Nat.add_mul]; congr 1; rw [Nat.mul_comm (36 - thrN k b), Nat.mul_assoc, Nat.mul_comm w]
      simp only [List.length_cons] at hg ⊢
      have := ih ((n - thrN k b) / (36 - thrN k b)) (k + 36) (w * (36 - thrN k b)) (n0 + (thrN k b + (n - thrN k b) % (36 - thrN k b)) * w) (a + 1) g h3 (by omega) (by omega) (by omega) HJ2.out
      rw [rd_next h1 h2 (by omega) (by omega) hW, this, e]
      congr 2 <;> omega
theorem numL_dig : ∀ (f n k b : Nat), n ≤ f → ∀ c ∈ numLp f n k b, valNp c ≠ none := by
  intro f
  induction f with
  | zero =>
    intro n k b hn c hc
    obtain rfl : n = 0 := by omega
    rw [numL_last (by have := thrN_range k b; omega)] at hc
    obtain rfl := List.mem_singleton.1 hc
    rw [valN_digN (by decide)]
    simp
  | succ f ih =>
    intro n k b hn c hc
    have ht := thrN_range k b
    by_cases h : n < thrN k b
    · rw [numL_last h] at hc
      obtain rfl := List.mem_singleton.1 hc
      rw [valN_digN (by omega)]
      simp
    · rw [numL_more h] at hc
      have hml : (n - thrN k b) % (36 - thrN k b) < 36 - thrN k b := Nat.mod_lt _ (by omega)
      rcases List.mem_cons.1 hc with rfl | hc
      · rw [valN_digN (by omega)]; simp
      · exact ih _ _ _ (by have := num_less h; omega) c hc
/-! ### Nothing is taken back -/
def More (u v : PStp) : Prop := ∃ r : List UInt8, v.out = u.out ++ r ∧ ∀ c ∈ r, valNp c ≠ none
theorem More.refl (u : PStp) : More u u := ⟨[], by simp, fun _ h => by cases h⟩
theorem More.trans {u v x : PStp} (h : More u v) (h2 : More v x) : More u x := by
  obtain ⟨r, e, a⟩ := h
  obtain ⟨r2, e2, a2⟩ := h2
  refine ⟨r ++ r2, by rw [e2, e, List.append_assoc], fun c hc => ?_⟩
  rcases List.mem_append.1 hc with h | h
  · exact a c h
  · exact a2 c h
theorem step_more (m basic : Nat) (u : PStp) (c : Nat) : More u (stepC m basic u c) := by
  unfold stepC
  split
  · exact ⟨[], by simp, fun _ h => by cases h⟩
  · split
    · exact ⟨numD u.delta u.bias, rfl, numL_dig _ _ _ _ (Nat.le_refl _)⟩
    · exact More.refl u
theorem fold_more (m basic : Nat) : ∀ (l : List Nat) (u : PStp), More u (l.foldl (stepC m basic) u) := by
  intro l
  induction l with
  | nil => intro u; exact More.refl u
  | cons c l ih => intro u; exact (step_more m basic u c).trans (ih _)
theorem enc_more (cs : List Nat) (basic : Nat) : ∀ (ms : List Nat) (n : Nat) (u : PStp), More u (encR cs basic ms n u) := by
  intro ms
  induction ms with
  | nil => intro n u; exact More.refl u
  | cons m ms ih =>
    intro n u
    have h1 : More u (roundC cs basic m n u) := (show More u ⟨u.delta + (m - n) * (u.h + 1), u.bias, u.h, u.out⟩ from ⟨[], by simp, fun _ h => by cases h⟩).trans (fold_more m basic cs _)
    exact (h1.trans (show More (roundC cs basic m n u) (nextC (roundC cs basic m n u)) from ⟨[], by simp [nextC], fun _ h => by cases h⟩)).trans (ih _ _)
/-! ### The reading goes along -/
structure Along (basic m pos : Nat) (u : PStp) (d : DSt) : Prop where
  a : d.a = u.out.length
  bias : d.bias = u.bias
  first : d.first = decide (u.h = basic)
  base : basic ≤ u.h
  len : u.h = d.out.length
  bal : d.n * (u.h + 1) + d.place + u.delta = m * (u.h + 1) + pos
  le : d.n ≤ m
def upto (m : Nat) (l : List Nat) : List Nat := l.filter fun c => decide (c ≤ m)
def till (m : Nat) (l : List Nat) : List Nat := l.filter fun c => decide (c < m)
theorem upto_le (m : Nat) (l : List Nat) : (upto m l).length ≤ l.length := List.length_filter_le _ _
theorem till_le (m : Nat) (l : List Nat) : (till m l).length ≤ l.length := List.length_filter_le _ _
theorem upto_one (m c : Nat) (l : List Nat) : upto m (l ++ [c]) = upto m l ++ (if c ≤ m then [c] else []) := by
  unfold upto
  rw [List.filter_append]
  congr 1
  by_cases h : c ≤ m <;> simp [h]
theorem till_cons (m c : Nat) (l : List Nat) : till m (c :: l) = if c < m then c :: till m l else till m l := by
  unfold till
  by_cases h : c < m <;> simp [h]
section
variable {s : ByteArray} {basic P : Nat} {fin : List UInt8}
theorem reads_at {o l : List UInt8} (hs : s.size = fin.length) (hv : ∀ k, P ≤ k → k < fin.length → valNp (byteAt s k) = valNp (fin.getD k 0)) (hp : ∃ r, fin = o ++ l ++ r) (hP : P ≤ o.length) : ReadsAs s o.length l := by
  obtain ⟨r, rfl⟩ := hp
  refine ⟨by rw [hs]; simp only [List.length_append]; omega, fun k hk => ?_⟩
  rw [hv (o.length + k) (by omega) (by simp only [List.length_append]; omega)]
  congr 1
  simp only [List.getD]
  rw [List.append_assoc, List.getElem?_append_right (by omega), Nat.add_sub_cancel_left, List.getElem?_append_left hk]
theorem dec_round (hs : s.size = fin.length) (hv : ∀ k, P ≤ k → k < fin.length → valNp (byteAt s k) = valNp (fin.getD k 0)) (m : Nat) (hm : rightB (m : Int) = true) (hm2 : m ≤ 1114111) :
    ∀ (suf pre : List Nat) (u : PStp) (d : DSt) (f : Nat), (pre ++ suf).length ≤ 256 → Along basic m (upto m pre).length u d → d.out = upto m pre ++ till m suf → P ≤ u.out.length →
      (∃ r, fin = (suf.foldl (stepC m basic) u).out ++ r) → s.size ≤ d.a + f →
      ∃ d' f', decF s f d = decF s f' d' ∧ Along basic m (upto m (pre ++ suf)).length (suf.foldl (stepC m basic) u) d' ∧ d'.out = upto m (pre ++ suf) ∧ s.size ≤ d'.a + f' := by
  intro suf
  induction suf with
  | nil =>
    intro pre u d f _ hA ho _ _ hf
    refine ⟨d, f, rfl, by rw [List.append_nil]; exact hA, ?_, hf⟩
    rw [ho, List.append_nil]
    show upto m pre ++ [] = _
    rw [List.append_nil]
  | cons c suf ih =>
    intro pre u d f hl hA ho hP hfin hf
    have hpre : pre ++ c :: suf = (pre ++ [c]) ++ suf := by simp
    rw [hpre] at hl ⊢
    rw [List.foldl_cons] at hfin ⊢
    rw [till_cons] at ho
    have hu1 := upto_one m c pre
    by_cases h1 : c < m
    · have hst : stepC m basic u c = ⟨u.delta + 1, u.bias, u.h, u.out⟩ := by unfold stepC; rw [if_pos h1]
      rw [if_pos h1] at ho
      rw [if_pos (by omega)] at hu1
      rw [hst] at hfin ⊢
      refine ih (pre ++ [c]) _ d f hl ⟨hA.a, hA.bias, hA.first, hA.base, hA.len, ?_, hA.le⟩ ?_ hP hfin hf
      · have := hA.bal
        rw [hu1, List.length_append]
        simp only [List.length_singleton]
        omega
      · rw [ho, hu1]; simp
    · rw [if_neg h1] at ho
      by_cases h2 : c = m
      · subst h2
        rw [if_pos (Nat.le_refl _)] at hu1
        have hst : stepC c basic u c = ⟨0, adaptN u.delta (u.h + 1) (decide (u.h = basic)), u.h + 1, u.out ++ numD u.delta u.bias⟩ := by unfold stepC; rw [if_neg h1, if_pos rfl]
        rw [hst] at hfin ⊢
        obtain ⟨r1, e1, _⟩ := fold_more c basic suf ⟨0, adaptN u.delta (u.h + 1) (decide (u.h = basic)), u.h + 1, u.out ++ numD u.delta u.bias⟩
        have hR := reads_at (o := u.out) (l := numD u.delta u.bias) hs hv (by obtain ⟨r, hr⟩ := hfin; exact ⟨r1 ++ r, by rw [hr, e1]; simp⟩) hP
        have hul := upto_le c pre
        have htl := till_le c suf
        have hol : d.out.length = (upto c pre).length + (till c suf).length := by rw [ho, List.length_append]
        have hl' := hl
        simp only [List.length_append, List.length_singleton] at hl
        have hhl := hA.len
        have hbal := hA.bal
        have hle := hA.le
        have hsub : d.n * (u.h + 1) + (c - d.n) * (u.h + 1) = c * (u.h + 1) := by rw [← Nat.add_mul, show d.n + (c - d.n) = c by omega]
        have hpd : d.place + u.delta = (upto c pre).length + (u.h + 1) * (c - d.n) := by rw [Nat.mul_comm (u.h + 1)]; omega
        have hdel : u.delta ≤ 286326784 := by
          have : (u.h + 1) * (c - d.n) ≤ 256 * 1114111 := Nat.mul_le_mul (by omega) (by omega)
          omega
        have hmod : (d.place + u.delta) % (u.h + 1) = (upto c pre).length := by rw [hpd, Nat.add_mul_mod_self_left, Nat.mod_eq_of_lt (by omega)]
        have hdiv : d.n + (d.place + u.delta) / (u.h + 1) = c := by rw [hpd, Nat.add_mul_div_left _ _ (by omega), Nat.div_eq_of_lt (by omega)]; omega
        have hlen1 : 1 ≤ (numD u.delta u.bias).length := by
          unfold numD
          cases u.delta with
          | zero => simp [numLp]
          | succ x => unfold numLp; split <;> simp
        have hsz := hR.1
        have hrd : rdN s d.a d.bias = .ok (u.delta, u.out.length + (numD u.delta u.bias).length) := by
          rw [hA.a, hA.bias]
          have := rd_num s u.bias u.delta u.delta 36 1 0 u.out.length (s.size - u.out.length) hR (Nat.le_refl _) (by show (numD u.delta u.bias).length ≤ _; omega) (by omega) (fun _ => ⟨0, rfl⟩)
          rw [Nat.mul_one, Nat.zero_add] at this
          exact this
        have hda := hA.a
        obtain ⟨f', rfl⟩ : ∃ f', f = f' + 1 := ⟨f - 1, by omega⟩
        have hn := dec_next (f := f') (show d.a < s.size by omega) hrd (by rw [← hhl, hdiv]; exact hm) (by omega)
        rw [← hhl, hdiv, hmod] at hn
        have hins : insL d.out (upto c pre).length c = upto c (pre ++ [c]) ++ till c suf := by
          unfold insL
          rw [ho, hu1]
          simp
        rw [hn]
        refine ih (pre ++ [c]) _ _ f' hl' ⟨by simp, ?_, ?_, Nat.le_trans hA.base (Nat.le_succ _), ?_, ?_, Nat.le_refl _⟩ hins (by simp only [List.length_append]; omega) hfin (by dsimp only; omega)
        · dsimp only
          rw [hA.first]
        · dsimp only
          rw [decide_eq_false]
          have := hA.base
          omega
        · dsimp only
          rw [hins, List.length_append, hu1, List.length_append]
          simp only [List.length_singleton]
          omega
        · dsimp only
          rw [hu1, List.length_append]
          simp only [List.length_singleton]
          omega
      · have hst : stepC m basic u c = u := by unfold stepC; rw [if_neg h1, if_neg h2]
        rw [if_neg (by omega), List.append_nil] at hu1
        rw [hst] at hfin ⊢
        refine ih (pre ++ [c]) _ d f hl (by rw [hu1]; exact hA) (by rw [hu1]; exact ho) hP hfin hf
theorem dec_all (cs : List Nat) (hr : ∀ c ∈ cs, rightB (c : Int) = true) (hl : cs.length ≤ 256) (hs : s.size = fin.length) (hv : ∀ k, P ≤ k → k < fin.length → valNp (byteAt s k) = valNp (fin.getD k 0)) :
    ∀ (ms : List Nat) (n : Nat) (u : PStp) (d : DSt) (f : Nat), ms.Pairwise (· < ·) → (∀ x, x ∈ ms ↔ x ∈ cs ∧ n ≤ x) → Along basic n 0 u d → d.out = till n cs → P ≤ u.out.length →
      (encR cs basic ms n u).out = fin → s.size ≤ d.a + f → decF s f d = .ok cs := by
  intro ms
  induction ms with
  | nil =>
    intro n u d f _ hmem hA ho _ hfin hf
    have : till n cs = cs := by
      unfold till
      rw [List.filter_eq_self]
      intro x hx
      by_cases h : n ≤ x
      · exact absurd ((hmem x).2 ⟨hx, h⟩) (by simp)
      · simp; omega
    have he : u.out = fin := hfin
    rw [dec_end (by rw [hs, hA.a, he]; exact Nat.le_refl _), ho, this]
  | cons m ms ih =>
    intro n u d f hp hmem hA ho hP hfin hf
    have hp' := List.pairwise_cons.1 hp
    obtain ⟨hmc, hnm⟩ := (hmem m).1 (by simp)
    have hrm := hr m hmc
    obtain ⟨m', hm', _, hm2⟩ := right_nat hrm
    obtain rfl : m = m' := by omega
    have htill : till n cs = till m cs := by
      unfold till
      apply List.filter_congr
      intro x hx
      have : x < n ↔ x < m := by
        constructor
        · omega
        · intro h
          apply Nat.lt_of_not_le
          intro h2
          rcases List.mem_cons.1 ((hmem x).2 ⟨hx, h2⟩) with e | e
          · omega
          · have := hp'.1 x e; omega
      exact decide_eq_decide.2 this
    have hA1 : Along basic m 0 ⟨u.delta + (m - n) * (u.h + 1), u.bias, u.h, u.out⟩ d := by
      refine ⟨hA.a, hA.bias, hA.first, hA.base, hA.len, ?_, Nat.le_trans hA.le hnm⟩
      have h1 := hA.bal
      have h2 : n * (u.h + 1) + (m - n) * (u.h + 1) = m * (u.h + 1) := by rw [← Nat.add_mul, show n + (m - n) = m by omega]
      dsimp only
      omega
    obtain ⟨r2, e2, _⟩ := enc_more cs basic ms (m + 1) (nextC (roundC cs basic m n u))
    obtain ⟨d', f', h1, h2, h3, h4⟩ := dec_round (P := P) hs hv m hrm hm2 cs [] _ d f (by simpa using hl) hA1 (by rw [ho, htill]; rfl) hP ⟨r2, by rw [← hfin]; exact e2⟩ hf
    rw [h1]
    rw [List.nil_append] at h2 h3
    obtain ⟨r3, e3, _⟩ := fold_more m basic cs ⟨u.delta + (m - n) * (u.h + 1), u.bias, u.h, u.out⟩
    refine ih (m + 1) (nextC (roundC cs basic m n u)) d' f' hp'.2 (fun x => ?_) ⟨h2.a, h2.bias, h2.first, h2.base, h2.len, ?_, Nat.le_succ_of_le h2.le⟩ ?_ ?_ hfin h4
    · constructor
      · intro hx
        exact ⟨((hmem x).1 (by simp [hx])).1, by have := hp'.1 x hx; omega⟩
      · rintro ⟨hx, h⟩
        rcases List.mem_cons.1 ((hmem x).2 ⟨hx, by omega⟩) with e | e
        · omega
        · exact e
    · have hb := h2.bal
      have hln := h2.len
      rw [h3] at hln
      show d'.n * ((roundC cs basic m n u).h + 1) + d'.place + ((roundC cs basic m n u).delta + 1) = (m + 1) * ((roundC cs basic m n u).h + 1) + 0
      have hx : (m + 1) * ((roundC cs basic m n u).h + 1) = m * ((roundC cs basic m n u).h + 1) + ((roundC cs basic m n u).h + 1) := Nat.succ_mul _ _
      have hb2 : d'.n * ((roundC cs basic m n u).h + 1) + d'.place + (roundC cs basic m n u).delta = m * ((roundC cs basic m n u).h + 1) + (upto m cs).length := hb
      have hl2 : (roundC cs basic m n u).h = (upto m cs).length := hln
      omega
    · rw [h3]
      unfold upto till
      apply List.filter_congr
      intro x _
      exact decide_eq_decide.2 (by omega)
    · show P ≤ (roundC cs basic m n u).out.length
      have : (roundC cs basic m n u).out = u.out ++ r3 := e3
      rw [this, List.length_append]
      omega
end
/-! ### The marked head -/
theorem lastK_eq {s : ByteArray} {b : Nat} (h : byteAt s b = 45) : ∀ n, b < n → (∀ k, b < k → k < n → byteAt s k ≠ 45) → lastK s n = b := by
  intro n
  induction n with
  | zero => intro h; omega
  | succ n ih =>
    intro hb hk
    by_cases e : b = n
    · subst e; rw [lastK, if_pos h]
    · rw [lastK, if_neg (hk n (by omega) (by omega)), ih (by omega) fun k h1 h2 => hk k h1 (by omega)]
theorem lastK_none {s : ByteArray} : ∀ n, (∀ k, k < n → byteAt s k ≠ 45) → lastK s n = 0 := by
  intro n
  induction n with
  | zero => intro _; rfl
  | succ n ih =>
    intro hk
    rw [lastK, if_neg (hk n (by omega)), ih fun k h => hk k (by omega)]
theorem high_none {s : ByteArray} : ∀ r k, (∀ j, j < r → (byteAt s (k + j)).toNat < 128) → highF s r k = none := by
  intro r
  induction r with
  | zero => intro k _; rfl
  | succ r ih =>
    intro k h
    rw [high_next (by have := h 0 (by omega); rw [Nat.add_zero] at this; omega)]
    refine ih (k + 1) fun j hj => ?_
    have := h (j + 1) (by omega)
    rwa [show k + (j + 1) = k + 1 + j by omega] at this
theorem basicL_at (cs : List Nat) (k : Nat) (h : k < (basicL cs).length) : ((basicL cs).getD k 0).toNat = (till 128 cs).getD k 0 ∧ ((basicL cs).getD k 0).toNat < 128 := by
  have e : basicL cs = (till 128 cs).map UInt8.ofNat := rfl
  rw [e] at h ⊢
  rw [List.length_map] at h
  simp only [List.getD, List.getElem?_map, List.getElem?_eq_getElem h, Option.map_some, Option.getD_some]
  have hm : (till 128 cs)[k] < 128 := by
    exact of_decide_eq_true (List.mem_filter.1 (List.getElem_mem h)).2
  rw [UInt8.toNat_ofNat_of_lt' (show (till 128 cs)[k] < 256 by omega)]
  exact ⟨rfl, hm⟩
/-- Bytes that read as what was encoded stand for its characters. -/
theorem dec_enc (cs : List Nat) (hr : ∀ c ∈ cs, rightB (c : Int) = true) (hl : cs.length ≤ 256) (s : ByteArray) (hs : s.size = (encN cs).length) (h1024 : s.size ≤ 1024)
    (hv : ∀ k, (basicO cs).length ≤ k → k < (encN cs).length → valNp (byteAt s k) = valNp ((encN cs).getD k 0)) (hb : ∀ k, k < (basicO cs).length → byteAt s k = (basicO cs).getD k 0) : decE s = .ok cs := by
  obtain ⟨r, er, hrd⟩ := enc_more cs (basicL cs).length (markL cs) 128 ⟨0, 72, (basicL cs).length, basicO cs⟩
  have er' : encN cs = basicO cs ++ r := er
  have hdig : ∀ k, (basicO cs).length ≤ k → k < s.size → byteAt s k ≠ 45 := fun k h1 h2 e => by
    have h3 := hv k h1 (by omega)
    rw [e, valN_mark] at h3
    have hk : k - (basicO cs).length < r.length := by rw [hs, er', List.length_append] at h2; omega
    have h4 : (encN cs).getD k 0 = r[k - (basicO cs).length] := by
      rw [er']
      simp only [List.getD]
      rw [List.getElem?_append_right h1, List.getElem?_eq_getElem hk]
      rfl
    rw [h4] at h3
    exact hrd _ (List.getElem_mem hk) h3.symm
  have htl : (till 128 cs).length = (basicL cs).length := by unfold basicL till; rw [List.length_map]
  have hb256 : (basicL cs).length ≤ 256 := by rw [← htl]; exact Nat.le_trans (till_le _ _) hl
  have hbl : ∀ k, k < (basicL cs).length → byteAt s k = (basicL cs).getD k 0 := fun k hk => by
    have hO : basicO cs = basicL cs ++ [45] := by unfold basicO; rw [if_neg (by omega)]
    rw [hb k (by rw [hO]; simp; omega), hO]
    simp only [List.getD]
    rw [List.getElem?_append_left hk]
  have hhead : headN s (basicL cs).length = till 128 cs := by
    apply List.ext_getElem
    · rw [headN_len, htl]
    · intro k h1 h2
      rw [headN_len] at h1
      have := (basicL_at cs k h1).1
      rw [← hbl k h1] at this
      have hx : (headN s (basicL cs).length)[k]'(by rw [headN_len]; exact h1) = (byteAt s k).toNat := by simp [headN]
      rw [hx, this]
      simp [List.getD, h2]
  have hlast : lastK s s.size = (basicL cs).length := by
    by_cases h0 : (basicL cs).length = 0
    · have hO : basicO cs = [] := by unfold basicO; rw [if_pos h0]
      rw [h0]
      refine lastK_none _ fun k hk => hdig k (by rw [hO]; exact Nat.zero_le _) hk
    · have hO : basicO cs = basicL cs ++ [45] := by unfold basicO; rw [if_neg h0]
      have hOl : (basicO cs).length = (basicL cs).length + 1 := by rw [hO]; simp
      refine lastK_eq ?_ _ (by rw [hs, er', List.length_append]; omega) fun k h1 h2 => hdig k (by omega) h2
      rw [hb _ (by omega), hO]
      simp [List.getD]
  have hA : (if 0 < (basicL cs).length then (basicL cs).length + 1 else 0) = (basicO cs).length := by
    unfold basicO
    by_cases h0 : (basicL cs).length = 0
    · rw [if_pos h0, if_neg (by omega)]; rfl
    · rw [if_neg h0, if_pos (by omega)]; simp
  rw [decE_low (by omega) (by rw [hlast]; exact high_none _ _ fun j hj => by rw [Nat.zero_add, hbl j hj]; exact (basicL_at cs j hj).2), hlast, dec_short (by omega), hA, hhead]
  refine dec_all (P := (basicO cs).length) (basic := (basicL cs).length) (fin := encN cs) cs hr hl hs hv (markL cs) 128 ⟨0, 72, (basicL cs).length, basicO cs⟩ _ s.size (markL_up cs) (markL_mem cs) ⟨rfl, rfl, by simp, Nat.le_refl _, htl.symm, by simp, Nat.le_refl _⟩ rfl (Nat.le_refl _) rfl (by dsimp only; omega)
/-- What was encoded stands for its characters. -/
theorem dec_encN (cs : List Nat) (hr : ∀ c ∈ cs, rightB (c : Int) = true) (hl : cs.length ≤ 256) (h1024 : (encN cs).length ≤ 1024) : decE ⟨(encN cs).toArray⟩ = .ok cs := by
  have hsz : (⟨(encN cs).toArray⟩ : ByteArray).size = (encN cs).length := by show (encN cs).toArray.size = _; simp
  obtain ⟨r, er, _⟩ := enc_more cs (basicL cs).length (markL cs) 128 ⟨0, 72, (basicL cs).length, basicO cs⟩
  have er' : encN cs = basicO cs ++ r := er
  have hby : ∀ k, byteAt ⟨(encN cs).toArray⟩ k = (encN cs).getD k 0 := fun k => by simp [byteAt]
  refine dec_enc cs hr hl _ hsz (by omega) (fun k _ _ => by rw [hby]) fun k hk => ?_
  rw [hby, er']
  simp only [List.getD]
  rw [List.getElem?_append_left hk]
end Go.Proofs.YtibhohpamnpkcaaGreatDoor
