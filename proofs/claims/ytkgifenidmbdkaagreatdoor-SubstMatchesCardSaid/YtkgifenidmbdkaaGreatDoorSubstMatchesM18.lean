/- Plain: the reference's names of a pattern's variables are those of its parts. -/
import Derived.Test.YtkgifenidmbdkaaGreatDoorSubstMatchesM17
import Derived.Test.YtkgifenidmbdkaaGreatDoorSubstMatchesM1
import Derived.StillTailTactics
import Derived.BigQuiet

namespace Go.Proofs.YtkgifenidmbdkaaGreatDoor
open Go.RowKit

def namesR (p : ByteArray) : Nat → Nat → List ByteArray
  | 0, _ => []
  | f + 1, k => if (nextP p k).2 < 0 then [] else p.extract ((nextP p k).1.toNat + 2) (nextP p k).2.toNat :: namesR p f ((nextP p k).2.toNat + 1)
theorem cutN_ext {p : ByteArray} {i : Nat} (hi : i ≤ p.size) : cutN 41 (p.extract i p.size) = p.extract i (i + (cutN 41 (p.extract i p.size)).size) := by
  obtain ⟨m, hm, _, h3, h4, _⟩ := cut_lim 41 (p.extract i p.size)
  have hs := extract_tail_size p i hi
  rw [h4, h3]
  apply ByteArray.ext
  apply Array.ext'
  rw [Lib.extract_data, Lib.extract_data, Lib.extract_data]
  simp only [List.drop_zero, Nat.sub_zero]
  rw [List.take_take, show i + m - i = m by omega, Nat.min_eq_left (by omega)]
theorem namesL_app (a b : List PcS) : namesL (a ++ b) = namesL a ++ namesL b := by unfold namesL; rw [List.filter_append, List.map_append]
theorem namesL_pre (p : ByteArray) (k n : Nat) : namesL (preP p k n) = [] := by unfold preP namesL; split <;> simp
theorem names_same (p : ByteArray) : ∀ f k, k ≤ p.size → p.size - k < f → namesL (pcF p f k).1 = namesR p f k := by
  intro f
  induction f with
  | zero => intro k _ h; omega
  | succ f ih =>
    intro k hk hf
    rw [pcF, namesR]
    by_cases hlt : k < p.size
    · rw [if_pos hlt]
      have hes := extract_tail_size p k hk
      rcases idx_pair (p.extract k p.size).data.toList with hi | ⟨n, hi, hn⟩
      · have hN : nextP p k = (-1, -1) := by unfold nextP; rw [hi, if_pos (by decide)]
        rw [hN, hi, if_pos (by decide), if_pos (by decide)]
        rfl
      · rw [show (p.extract k p.size).data.toList.length = (p.extract k p.size).size from rfl, hes] at hn
        by_cases hc : cutH 41 (p.extract (k + n + 2) p.size) = true
        · have hN : nextP p k = ((k : Int) + (n : Int), ((k + n + 2 + (cutN 41 (p.extract (k + n + 2) p.size)).size : Nat) : Int)) := by
            unfold nextP
            rw [hi, if_neg (by omega), Int.toNat_natCast, if_pos hc]
          rw [hN, hi, if_neg (by omega), Int.toNat_natCast, pre_int, if_pos hc]
          have hr := cut_room hc
          have he := extract_tail_size p (k + n + 2) (by omega)
          rw [he] at hr
          simp only
          rw [if_neg (by omega), Int.toNat_natCast, show ((k : Int) + (n : Int)).toNat = k + n by omega, namesL_app, namesL_pre, List.nil_append, ← cutN_ext (by omega), ← ih _ (by omega) (by omega)]
          rfl
        · have hN : nextP p k = ((k : Int) + (n : Int), -1) := by
            unfold nextP
            rw [hi, if_neg (by omega), Int.toNat_natCast, if_neg hc]
          rw [hN, hi, if_neg (by omega), Int.toNat_natCast, pre_int, if_neg hc]
          simp only
          rw [if_pos (by decide)]
          exact namesL_pre p k n
    · rw [if_neg hlt]
      have hn : nextP p k = (-1, -1) := nextP_none hk (fun j h1 h2 => by omega)
      rw [hn, if_pos (by decide)]; rfl
theorem names_all (p : ByteArray) : namesL (pcs p).1 = namesR p (p.size + 1) 0 := names_same p (p.size + 1) 0 (Nat.zero_le _) (by omega)
end Go.Proofs.YtkgifenidmbdkaaGreatDoor

/- Plain: the reference's answer from the pattern's end on is that of all parts. -/
namespace Go.Proofs.YtkgifenidmbdkaaGreatDoor
open Go.RowKit

/-- Of the places from i on, up to k: does one of some patterns stand for the text to it, and the rest behind? -/
def valT (fold : Bool) (cs : List Nat) (l : List ByteArray) (ends : Nat → Bool) (i k : Nat) : Bool := (List.range k).any fun j => decide (i ≤ j) && (ends j && l.any fun v => matchB v (cutS cs i j) fold)
def valR (fold : Bool) (cs : List Nat) (l : List ByteArray) (ends : Nat → Bool) (i : Nat) : Bool := valT fold cs l ends i (cs.length + 1)
theorem valT_low {fold : Bool} {cs : List Nat} {l : List ByteArray} {ends : Nat → Bool} {i k : Nat} (h : k ≤ i) : valT fold cs l ends i k = false := by
  unfold valT
  rw [List.any_eq_false]
  intro j hj
  have := List.mem_range.1 hj
  rw [decide_eq_false (by omega)]
  simp
theorem valT_succ {fold : Bool} {cs : List Nat} {l : List ByteArray} {ends : Nat → Bool} {i k : Nat} (h : i ≤ k) : valT fold cs l ends i (k + 1) = (valT fold cs l ends i k || (ends k && l.any fun v => matchB v (cutS cs i k) fold)) := by
  unfold valT
  rw [List.range_succ, List.any_append]
  simp [h]
theorem valT_yes {fold : Bool} {cs : List Nat} {l : List ByteArray} {ends : Nat → Bool} {i k m : Nat} (h : k ≤ m) (hv : valT fold cs l ends i k = true) : valT fold cs l ends i m = true := by
  unfold valT at hv ⊢
  obtain ⟨j, hj, h2⟩ := List.any_eq_true.1 hv
  exact List.any_eq_true.2 ⟨j, List.mem_range.2 (by have := List.mem_range.1 hj; omega), h2⟩
theorem match_cut {cs : List Nat} (hcs : ∀ c ∈ cs, rightC c) (v : ByteArray) (i k : Nat) (fold : Bool) : matchB v (cutS cs i k) fold = (okP v && langB fold (patP v) (segL cs i k)) := by
  unfold matchB
  rw [cut_chrs hcs]
  rfl
theorem valR_iff {fold : Bool} {cs : List Nat} {l : List ByteArray} {ends : Nat → Bool} {i : Nat} (hcs : ∀ c ∈ cs, rightC c) : valR fold cs l ends i = true ↔ ∃ k, i ≤ k ∧ k ≤ cs.length ∧ (∃ v ∈ l, (okP v && langB fold (patP v) (segL cs i k)) = true) ∧ ends k = true := by
  unfold valR valT
  rw [List.any_eq_true]
  constructor
  · rintro ⟨k, hk, h⟩
    rw [Bool.and_eq_true, Bool.and_eq_true, decide_eq_true_eq, List.any_eq_true] at h
    obtain ⟨h1, h2, v, h3, h4⟩ := h
    exact ⟨k, h1, by have := List.mem_range.1 hk; omega, ⟨v, h3, by rw [← match_cut hcs]; exact h4⟩, h2⟩
  · rintro ⟨k, h1, h2, ⟨v, h3, h4⟩, h5⟩
    refine ⟨k, List.mem_range.2 (by omega), ?_⟩
    rw [Bool.and_eq_true, Bool.and_eq_true, decide_eq_true_eq, List.any_eq_true]
    exact ⟨h1, h5, v, h3, by rw [match_cut hcs]; exact h4⟩
theorem rel_plain {fold : Bool} {cs : List Nat} {vars : List SVar} {t : ByteArray} {pl i k : Nat} : relR fold cs vars ⟨t, false, pl⟩ i k = (okP t && langB fold (patP t) (segL cs i k)) := by unfold relR; simp
theorem val_one {fold : Bool} {cs : List Nat} {vars : List SVar} {t : ByteArray} {pl : Nat} {qs : List PcS} {ends here : Nat → Bool} (hcs : ∀ c ∈ cs, rightC c) (h : ∀ k, k ≤ cs.length → here k = backR fold cs vars qs ends k) (i : Nat) : valR fold cs [t] here i = backR fold cs vars (⟨t, false, pl⟩ :: qs) ends i := by
  rw [Bool.eq_iff_iff, valR_iff hcs, backR_iff]
  constructor
  · rintro ⟨k, h1, h2, ⟨v, h3, h4⟩, h5⟩
    obtain rfl : v = t := by simpa using h3
    exact ⟨k, h1, h2, by rw [rel_plain]; exact h4, by rw [← h k h2]; exact h5⟩
  · rintro ⟨k, h1, h2, h3, h4⟩
    exact ⟨k, h1, h2, ⟨t, by simp, by rw [rel_plain] at h3; exact h3⟩, by rw [h k h2]; exact h4⟩
theorem val_empty {fold : Bool} {cs : List Nat} {t : ByteArray} {here : Nat → Bool} (ht : t.size = 0) (hcs : ∀ c ∈ cs, rightC c) {i : Nat} (hi : i ≤ cs.length) : valR fold cs [t] here i = here i := by
  obtain ⟨⟨d⟩⟩ := t
  have hd : d = [] := by
    have : d.length = 0 := ht
    exact List.length_eq_zero_iff.1 this
  subst hd
  have hp : okP ⟨⟨[]⟩⟩ = true := by decide +kernel
  have hq : patP ⟨⟨[]⟩⟩ = [] := by decide +kernel
  have hnil : ∀ k, i ≤ k → k ≤ cs.length → (langB fold [] (segL cs i k) = true ↔ k = i) := fun k h1 h2 => by
    show (segL cs i k).isEmpty = true ↔ _
    rw [List.isEmpty_iff, ← List.length_eq_zero_iff, seg_len h2]
    omega
  rw [Bool.eq_iff_iff, valR_iff hcs]
  constructor
  · rintro ⟨k, h1, h2, ⟨v, h3, h4⟩, h5⟩
    obtain rfl : v = ⟨⟨[]⟩⟩ := by simpa using h3
    rw [hp, hq, Bool.true_and, hnil k h1 h2] at h4
    rw [← h4]; exact h5
  · intro h
    exact ⟨i, Nat.le_refl _, hi, ⟨_, List.mem_singleton.2 rfl, by rw [hp, hq, Bool.true_and, hnil i (Nat.le_refl _) hi]⟩, h⟩
def clsB (fold : Bool) (cs : List Nat) (am : ByteArray) (sz : Nat) (behind : Nat → Bool) (n : Nat) : Bool := decide (n + sz < cs.length + 1) && (behind (n + sz) && (segL cs n (n + sz)).all (withinB fold am))
/-- What a variable, and what is behind it, stand for. -/
def hereR (fold : Bool) (cs : List Nat) (vars : List SVar) (name : ByteArray) (behind : Nat → Bool) : Nat → Bool := match ownC name with
  | some (am, sz) => clsB fold cs am sz behind
  | none => valR fold cs ((findV vars name).getD []) behind
theorem here_back {fold : Bool} {cs : List Nat} {vars : List SVar} {name : ByteArray} {pl : Nat} {qs : List PcS} {ends behind : Nat → Bool} (hcs : ∀ c ∈ cs, rightC c) (h : ∀ k, k ≤ cs.length → behind k = backR fold cs vars qs ends k) (i : Nat) : hereR fold cs vars name behind i = backR fold cs vars (⟨name, true, pl⟩ :: qs) ends i := by
  have hr : ∀ i k, relR fold cs vars ⟨name, true, pl⟩ i k = match ownC name with
    | some (among, size) => decide (k = i + size) && (segL cs i k).all (withinB fold among)
    | none => ((findV vars name).getD []).any fun v => okP v && langB fold (patP v) (segL cs i k) := fun i k => by unfold relR; rw [if_pos rfl]; rfl
  unfold hereR
  rw [Bool.eq_iff_iff, backR_iff]
  simp only [hr]
  cases ho : ownC name with
  | some x =>
    obtain ⟨am, sz⟩ := x
    simp only
    unfold clsB
    rw [Bool.and_eq_true, Bool.and_eq_true, decide_eq_true_eq]
    constructor
    · rintro ⟨h1, h2, h3⟩
      exact ⟨i + sz, by omega, by omega, by rw [decide_eq_true rfl, h3]; rfl, by rw [← h _ (by omega)]; exact h2⟩
    · rintro ⟨k, h1, h2, h3, h4⟩
      rw [Bool.and_eq_true, decide_eq_true_eq] at h3
      obtain ⟨rfl, h3⟩ := h3
      exact ⟨by omega, by rw [h _ h2]; exact h4, h3⟩
  | none =>
    simp only
    rw [valR_iff hcs]
    constructor
    · rintro ⟨k, h1, h2, h3, h5⟩
      exact ⟨k, h1, h2, List.any_eq_true.2 h3, by rw [← h k h2]; exact h5⟩
    · rintro ⟨k, h1, h2, h3, h4⟩
      exact ⟨k, h1, h2, List.any_eq_true.1 h3, by rw [h k h2]; exact h4⟩
/-- The reference's answer: from which places does what is behind a place of the pattern stand for the text's rest? -/
def restF (fold : Bool) (cs : List Nat) (vars : List SVar) (p : ByteArray) (ends : Nat → Bool) : Nat → Nat → Nat → Bool
  | 0, _ => fun _ => false
  | f + 1, at_ => if (nextP p at_).1 < 0 then valR fold cs [p.extract at_ p.size] ends
    else valR fold cs [p.extract at_ (nextP p at_).1.toNat] (hereR fold cs vars (p.extract ((nextP p at_).1.toNat + 2) (nextP p at_).2.toNat) (restF fold cs vars p ends f ((nextP p at_).2.toNat + 1)))
theorem val_pre {fold : Bool} {cs : List Nat} {vars : List SVar} {p : ByteArray} {k n : Nat} {qs : List PcS} {ends here : Nat → Bool} (hk : k + n ≤ p.size) (hcs : ∀ c ∈ cs, rightC c) (h : ∀ i, i ≤ cs.length → here i = backR fold cs vars qs ends i) {i : Nat} (hi : i ≤ cs.length) : valR fold cs [p.extract k (k + n)] here i = backR fold cs vars (preP p k n ++ qs) ends i := by
  unfold preP
  by_cases h0 : 0 < n
  · rw [if_pos h0]
    exact val_one hcs h i
  · rw [if_neg h0, List.nil_append, val_empty _ hcs hi, h i hi]
    rw [extract_size p k (k + n) (by omega) hk]
    omega
theorem rest_back {fold : Bool} {cs : List Nat} {vars : List SVar} {ends : Nat → Bool} (p : ByteArray) (hcs : ∀ c ∈ cs, rightC c) : ∀ f k, k ≤ p.size → p.size - k < f → (pcF p f k).2 < 0 → ∀ i, i ≤ cs.length → restF fold cs vars p ends f k i = backR fold cs vars (pcF p f k).1 ends i := by
  intro f
  induction f with
  | zero => intro k _ h; omega
  | succ f ih =>
    intro k hk hf
    rw [pcF, restF]
    by_cases hlt : k < p.size
    · rw [if_pos hlt]
      have hes := extract_tail_size p k hk
      rcases idx_pair (p.extract k p.size).data.toList with hi | ⟨n, hi, hn⟩
      · have hN : nextP p k = (-1, -1) := by unfold nextP; rw [hi, if_pos (by decide)]
        rw [hN, hi, if_pos (by decide), if_pos (by decide)]
        intro _ i _
        exact val_one (qs := []) hcs (fun _ _ => rfl) i
      · rw [show (p.extract k p.size).data.toList.length = (p.extract k p.size).size from rfl, hes] at hn
        by_cases hc : cutH 41 (p.extract (k + n + 2) p.size) = true
        · have hN : nextP p k = ((k : Int) + (n : Int), ((k + n + 2 + (cutN 41 (p.extract (k + n + 2) p.size)).size : Nat) : Int)) := by
            unfold nextP
            rw [hi, if_neg (by omega), Int.toNat_natCast, if_pos hc]
          rw [hN, hi, if_neg (by omega), Int.toNat_natCast, pre_int, if_pos hc]
          have hr := cut_room hc
          have he := extract_tail_size p (k + n + 2) (by omega)
          rw [he] at hr
          simp only
          rw [if_neg (by omega), Int.toNat_natCast, show ((k : Int) + (n : Int)).toNat = k + n by omega, ← cutN_ext (by omega)]
          intro h2 i hi
          exact val_pre (by omega) hcs (fun j hj => here_back hcs (ih _ (by omega) (by omega) h2) j) hi
        · rw [hi, if_neg (by omega), Int.toNat_natCast, pre_int, if_neg hc]
          intro h2
          simp only at h2
          omega
    · rw [if_neg hlt]
      have hn : nextP p k = (-1, -1) := nextP_none hk (fun j h1 h2 => by omega)
      rw [hn, if_pos (by decide)]
      intro _ i hi
      exact val_empty (by rw [extract_tail_size p k hk]; omega) hcs hi
theorem pcF_cases {p : ByteArray} {f k : Nat} (hk : k ≤ p.size) (hg : (pcF p (f + 1) k).2 < 0) : nextP p k = (-1, -1) ∨ ∃ i q : Nat, nextP p k = ((i : Int), (q : Int)) ∧ k ≤ i ∧ i + 2 ≤ q ∧ q < p.size ∧ (pcF p f (q + 1)).2 < 0 := by
  rw [pcF] at hg
  by_cases hlt : k < p.size
  · rw [if_pos hlt] at hg
    have hes := extract_tail_size p k hk
    rcases idx_pair (p.extract k p.size).data.toList with hi | ⟨n, hi, hn⟩
    · exact .inl (by unfold nextP; rw [hi, if_pos (by decide)])
    · rw [show (p.extract k p.size).data.toList.length = (p.extract k p.size).size from rfl, hes] at hn
      rw [hi, if_neg (by omega), Int.toNat_natCast, pre_int] at hg
      by_cases hc : cutH 41 (p.extract (k + n + 2) p.size) = true
      · have hN : nextP p k = (((k + n : Nat) : Int), ((k + n + 2 + (cutN 41 (p.extract (k + n + 2) p.size)).size : Nat) : Int)) := by
          unfold nextP
          rw [hi, if_neg (by omega), Int.toNat_natCast, if_pos hc]
          rfl
        rw [if_pos hc] at hg
        have hr := cut_room hc
        rw [extract_tail_size p (k + n + 2) (by omega)] at hr
        exact .inr ⟨k + n, _, hN, by omega, by omega, by omega, hg⟩
      · rw [if_neg hc] at hg
        simp only at hg
        omega
  · exact .inl (nextP_none hk (fun j h1 h2 => by omega))
/-- What the reference answers is what subst.Match answers. -/
theorem rest_match {fold : Bool} {vars : List SVar} {p s : ByteArray} (hn : (chrs s).2 = none) (hok : okV p vars = true) : subM p vars s fold = restF fold (chrs s).1 vars p (fun i => decide (i = (chrs s).1.length)) (p.size + 1) 0 0 := by
  have h2 : (pcF p (p.size + 1) 0).2 < 0 := by
    unfold okV at hok
    rw [Bool.and_eq_true, Bool.and_eq_true, decide_eq_true_eq] at hok
    exact hok.2.2
  rw [rest_back p (right_chrs s) _ _ (Nat.zero_le _) (by omega) h2 0 (Nat.zero_le _)]
  unfold subM
  rw [hn, hok]
  exact runR_back _
end Go.Proofs.YtkgifenidmbdkaaGreatDoor

/- A region that draws its order, whose operations but for a tail only read: its head, walked by the quiet walk's cheap steps, in the one world. -/
namespace Go.Proofs.YtkgifenidmbdkaaGreatDoor
open Go.RowKit

theorem still_of_quiet {P : Program} {ops : Array Oper} {w : World} {o : Oper} {a : Act} {K : Act → Prop} (h : o.quiet P a (fun x => x = w) K) : o.still P a w K := by
  obtain ⟨v, h1, h2⟩ := h
  have h3 := h1 w rfl
  unfold Oper.quietAt at h3
  unfold Oper.still
  generalize (execOp a.eval o).run P w = r at *
  cases r with
  | ok n w' =>
    cases n <;> simp only [Oper.quietUpon] at h3 <;> simp only [Oper.stillUpon]
    case value u => obtain ⟨h4, rfl⟩ := h3; exact ⟨h4, h2⟩
    case skip => obtain ⟨h4, rfl⟩ := h3; exact ⟨h4, h2⟩
    case enter f args => exact ⟨h3.1, v, h3.2, h2⟩
  | halt x w' => simp only [Oper.quietUpon] at h3
theorem wpStill_of_quiet {P : Program} {ops : Array Oper} {w : World} {Q : Act → Prop} : ∀ (l : List Oper) (a : Act), wpQuiet P ops (fun x => x = w) Q l a → wpStill P ops w Q l a
  | [], _, h => h
  | o :: rest, a, h => by
    unfold wpQuiet at h
    unfold wpStill
    split
    · rename_i hw
      rw [if_pos hw] at h
      exact Oper.still_mono (fun a' h' => wpStill_of_quiet rest a' h') (still_of_quiet (ops := ops) h)
    · rename_i hw
      rw [if_neg hw] at h
      exact wpStill_of_quiet rest _ h
end Go.Proofs.YtkgifenidmbdkaaGreatDoor
