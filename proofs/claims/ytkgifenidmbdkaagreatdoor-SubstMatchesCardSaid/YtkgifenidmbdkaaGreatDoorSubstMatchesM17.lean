/- The reference's cut of chapter 19. -/
import Derived.Test.YtkgifenidmbdkaaGreatDoorSubstMatchesM14
import Derived.Test.YtkgifenidmbdkaaGreatDoorSubstMatchesM10
import Derived.Test.YtkgifenidmbdkaaGreatDoorSubstMatchesM16
import Derived.Test.YtkgifenidmbdkaaGreatDoorSubstMatchesM6
import Derived.Test.YtkgifenidmbdkaaGreatDoorSubstMatchesM7
import Derived.Test.YtkgifenidmbdkaaGreatDoorSubstMatchesM5
import Derived.Laws.OwnMore
import Derived.Deep.OwnRows
import Derived.Maps.AppendAt
import Derived.Lib.SlicesS
import Derived.Test.YtkgifenidmbdkaaGreatDoorShelf

namespace Go.Proofs.YtkgifenidmbdkaaGreatDoor
open Go.RowKit

/-- The bytes of the characters from one place to another. -/
def cutS (cs : List Nat) (i k : Nat) : ByteArray := ⟨(putAll (segL cs i k)).toArray⟩
theorem seg_mem {cs : List Nat} {i k c : Nat} (h : c ∈ segL cs i k) : c ∈ cs := List.mem_of_mem_take (List.mem_of_mem_drop h)
theorem cut_chrs {cs : List Nat} (h : ∀ c ∈ cs, rightC c) (i k : Nat) : chrs (cutS cs i k) = (segL cs i k, none) := chrs_put _ fun c hc => h c (seg_mem hc)
theorem cutS_size {cs : List Nat} {i k : Nat} (hk : k ≤ cs.length) : (cutS cs i k).size ≤ 4 * cs.length := by
  have h1 := (putAll_len (segL cs i k)).2
  rw [seg_len hk] at h1
  have : (cutS cs i k).size = (putAll (segL cs i k)).length := by unfold cutS; show Array.size _ = _; simp
  omega
theorem rightLen_nat : ∀ l : List Nat, (∀ c ∈ l, rightC c) → rightLen (l.map Int.ofNat) = l.length := by
  intro l
  induction l with
  | nil => intro _; rfl
  | cons c l ih =>
    intro h
    rw [List.map_cons, rightLen, if_pos (show rightB (Int.ofNat c) = true from (rightC_iff c).1 (h c (List.mem_cons_self ..))), ih fun d hd => h d (List.mem_cons_of_mem _ hd)]
    rfl
theorem nats_nat (l : List Nat) : nats (l.map Int.ofNat) = l := by
  unfold nats
  rw [List.map_map]
  conv => rhs; rw [← List.map_id l]
  apply List.map_congr_left
  intro c _
  simp
theorem seg_ints {w : World} {a : Option Addr} {cs : List Nat} {i k cap : Nat} (hsl : CharsSl w a cs) (hi : i < k) (hk : k ≤ cs.length) (hc : cs.length ≤ cap) (hcm : cap ≤ maxLen) : ∃ b, a = some ⟨b, 0, none⟩ ∧ IntsSl w (.slice (some ⟨b, i, none⟩) (k - i) (cap - i)) ((segL cs i k).map Int.ofNat) := by
  obtain ⟨b, rfl, hb, _⟩ := hsl i cs[i] (List.getElem?_eq_getElem (by omega))
  refine ⟨b, rfl, .inr ⟨b, i, cap - i, by rw [List.length_map, seg_len hk], by rw [List.length_map, seg_len hk]; omega, by omega, hb, fun j hj => ?_⟩⟩
  rw [List.length_map, seg_len hk] at hj
  obtain ⟨b', e, _, h⟩ := hsl (i + j) cs[i + j] (List.getElem?_eq_getElem (by omega))
  injection e with e
  injection e with e
  subst e
  rw [h]
  congr 2
  rw [List.getD, List.getElem?_map]
  unfold segL
  rw [List.getElem?_drop, List.getElem?_take, if_pos (by omega), List.getElem?_eq_getElem (by omega)]
  rfl
set_option maxHeartbeats 1600000 in
set_option maxRecDepth 100000 in
theorem ref19_cut (a : Option Addr) (cap i k : Nat) (cs : List Nat) (w : World) (hsl : CharsSl w a cs) (hcs : ∀ c ∈ cs, rightC c) (hn : cs.length ≤ 16777216) (hi : i ≤ k) (hk : k ≤ cs.length) (hc : cs.length ≤ cap) (hcm : cap ≤ maxLen) :
    Calls Tryz.prog 126 #[.slice a cs.length cap, .int .i64 (i : Int), .int .i64 (k : Int)] w fun e w' => e = .returned (.string (cutS cs i k)) ∧ Below w.heap.size w w' := by
  have hr := rightLen_nat (segL cs i k) fun c hc => hcs c (seg_mem hc)
  have hnn := nats_nat (segL cs i k)
  have hll := seg_len (i := i) hk
  have HCUT : cutS cs i k = ⟨(putAll (segL cs i k)).toArray⟩ := rfl
  by_cases hik : i < k
  · obtain ⟨b, rfl, hin⟩ := seg_ints hsl hik hk hc hcm
    have y1 : (i : Int) ≤ (k : Int) := by omega
    have y2 : (k : Int) ≤ (cap : Int) := by omega
    have y3 : ¬ cap = i := by omega
    have CT := Lib.hid (ref_Text _ _ w (by rw [List.length_map]; omega) hin)
    have HR := Lib.hid hr
    have HN := Lib.hid hnn
    have HC := Lib.hid HCUT
    have HL := Lib.hid hll
    clear hr hnn HCUT hin hsl hcs hll
    go_enter Tryz.func126, Tryz.ntmps126
    go_wp2_with fail
    refine CT.out.mono ?_
    rintro e w1 ⟨hb1, h⟩
    rcases h with ⟨_, v, rfl, hown⟩ | ⟨h, _⟩
    · rw [HN.out] at hown
      have hcv := hown.conv
      rw [← HC.out] at hcv
      clear hown CT
      go_wp2_with fail
      go_ret
      exact ⟨rfl, hb1⟩
    · rw [List.length_map, HR.out] at h
      omega
  · obtain rfl : i = k := by omega
    rw [seg_self] at HCUT
    have y2 : (i : Int) ≤ (cap : Int) := by omega
    have CT := Lib.hid (fun x h => ref_Text x [] w (by simp) h)
    have HC := Lib.hid HCUT
    clear hr hnn HCUT hsl hcs hll
    by_cases hci : cap = i
    all_goals
      go_enter Tryz.func126, Tryz.ntmps126
      go_wp2_with fail
      refine (CT.out _ (.inl ⟨rfl, _, _, rfl⟩)).mono ?_
      rintro e w1 ⟨hb1, h⟩
      rcases h with ⟨_, v, rfl, hown⟩ | ⟨h, _⟩
      · have hcv := hown.conv
        rw [show (⟨(putAll (nats [])).toArray⟩ : ByteArray) = cutS cs i i from HC.out.symm] at hcv
        clear hown CT
        go_wp2_with fail
        go_ret
        exact ⟨rfl, hb1⟩
      · simp [rightLen] at h
end Go.Proofs.YtkgifenidmbdkaaGreatDoor

/- Plain: forwards and from the end on, the same texts are in a pattern's language. -/
namespace Go.Proofs.YtkgifenidmbdkaaGreatDoor

/-- Whether the characters from one place to another stand for a part. -/
def relR (fold : Bool) (cs : List Nat) (vars : List SVar) (q : PcS) (i k : Nat) : Bool :=
  if q.isVar = true then match ownC q.text with
    | some (among, size) => decide (k = i + size) && (segL cs i k).all (withinB fold among)
    | none => ((findV vars q.text).getD []).any fun v => okP v && langB fold (patP v) (segL cs i k)
  else okP q.text && langB fold (patP q.text) (segL cs i k)
theorem patR_iff {fold : Bool} {cs : List Nat} {v : ByteArray} {fr : Nat → Bool} {j : Nat} : patR fold cs v fr j = true ↔ ∃ i, i ≤ j ∧ fr i = true ∧ (okP v && langB fold (patP v) (segL cs i j)) = true := by
  unfold patR
  rw [Bool.and_eq_true, List.any_eq_true]
  constructor
  · rintro ⟨h, i, hi, h2⟩
    rw [Bool.and_eq_true] at h2
    exact ⟨i, by have := List.mem_range.1 hi; omega, h2.1, by rw [h, h2.2]; rfl⟩
  · rintro ⟨i, hi, h1, h2⟩
    rw [Bool.and_eq_true] at h2
    exact ⟨h2.1, i, List.mem_range.2 (by omega), by rw [h1, h2.2]; rfl⟩
theorem stepR_iff {fold : Bool} {cs : List Nat} {vars : List SVar} {q : PcS} {fr : Nat → Bool} {j : Nat} : stepR fold cs vars q fr j = true ↔ ∃ i, i ≤ j ∧ fr i = true ∧ relR fold cs vars q i j = true := by
  unfold stepR relR
  by_cases hv : q.isVar = true
  · simp only [if_pos hv]
    cases ho : ownC q.text with
    | some x =>
      obtain ⟨am, sz⟩ := x
      simp only
      unfold clsR
      rw [Bool.and_eq_true, Bool.and_eq_true, decide_eq_true_eq]
      constructor
      · rintro ⟨h1, h2, h3⟩
        exact ⟨j - sz, by omega, h2, by rw [Bool.and_eq_true, decide_eq_true_eq]; exact ⟨by omega, h3⟩⟩
      · rintro ⟨i, hi, h1, h2⟩
        rw [Bool.and_eq_true, decide_eq_true_eq] at h2
        obtain ⟨rfl, h2⟩ := h2
        rw [show i + sz - sz = i by omega]
        exact ⟨by omega, h1, h2⟩
    | none =>
      simp only
      rw [List.any_eq_true]
      constructor
      · rintro ⟨v, hv, h⟩
        obtain ⟨i, hi, h1, h2⟩ := patR_iff.1 h
        exact ⟨i, hi, h1, List.any_eq_true.2 ⟨v, hv, h2⟩⟩
      · rintro ⟨i, hi, h1, h2⟩
        obtain ⟨v, hv, h2⟩ := List.any_eq_true.1 h2
        exact ⟨v, hv, patR_iff.2 ⟨i, hi, h1, h2⟩⟩
  · simp only [if_neg hv]
    exact patR_iff
/-- From which places do parts, and what is behind them, stand for the text's rest? -/
def backR (fold : Bool) (cs : List Nat) (vars : List SVar) : List PcS → (Nat → Bool) → Nat → Bool
  | [], ends => ends
  | q :: qs, ends => fun i => (List.range (cs.length + 1)).any fun k => decide (i ≤ k) && (relR fold cs vars q i k && backR fold cs vars qs ends k)
theorem backR_iff {fold : Bool} {cs : List Nat} {vars : List SVar} {q : PcS} {qs : List PcS} {ends : Nat → Bool} {i : Nat} : backR fold cs vars (q :: qs) ends i = true ↔ ∃ k, i ≤ k ∧ k ≤ cs.length ∧ relR fold cs vars q i k = true ∧ backR fold cs vars qs ends k = true := by
  rw [backR, List.any_eq_true]
  constructor
  · rintro ⟨k, hk, h⟩
    rw [Bool.and_eq_true, Bool.and_eq_true, decide_eq_true_eq] at h
    exact ⟨k, h.1, by have := List.mem_range.1 hk; omega, h.2.1, h.2.2⟩
  · rintro ⟨k, h1, h2, h3, h4⟩
    exact ⟨k, List.mem_range.2 (by omega), by rw [h3, h4, decide_eq_true h1]; rfl⟩
theorem dual {fold : Bool} {cs : List Nat} {vars : List SVar} (ends : Nat → Bool) : ∀ (qs : List PcS) (fr : Nat → Bool), (∃ j, j ≤ cs.length ∧ runR fold cs vars qs fr j = true ∧ ends j = true) ↔ ∃ i, i ≤ cs.length ∧ fr i = true ∧ backR fold cs vars qs ends i = true := by
  intro qs
  induction qs with
  | nil =>
    intro fr
    constructor
    · rintro ⟨j, hj, h1, h2⟩; exact ⟨j, hj, h1, h2⟩
    · rintro ⟨j, hj, h1, h2⟩; exact ⟨j, hj, h1, h2⟩
  | cons q qs ih =>
    intro fr
    rw [show (∃ j, j ≤ cs.length ∧ runR fold cs vars (q :: qs) fr j = true ∧ ends j = true) ↔ ∃ j, j ≤ cs.length ∧ runR fold cs vars qs (stepR fold cs vars q fr) j = true ∧ ends j = true from Iff.rfl, ih]
    constructor
    · rintro ⟨k, hk, h1, h2⟩
      obtain ⟨i, hi, h3, h4⟩ := stepR_iff.1 h1
      exact ⟨i, by omega, h3, backR_iff.2 ⟨k, hi, hk, h4, h2⟩⟩
    · rintro ⟨i, hi, h1, h2⟩
      obtain ⟨k, h3, h4, h5, h6⟩ := backR_iff.1 h2
      exact ⟨k, h4, stepR_iff.2 ⟨i, h3, h1, h5⟩, h6⟩
/-- A text is in the language just if its first place reaches its end. -/
theorem runR_back {fold : Bool} {cs : List Nat} {vars : List SVar} (qs : List PcS) : runR fold cs vars qs (fun i => decide (i = 0)) cs.length = backR fold cs vars qs (fun i => decide (i = cs.length)) 0 := by
  have := dual (fold := fold) (cs := cs) (vars := vars) (fun i => decide (i = cs.length)) qs (fun i => decide (i = 0))
  rw [Bool.eq_iff_iff]
  constructor
  · intro h
    obtain ⟨i, _, h1, h2⟩ := this.1 ⟨cs.length, Nat.le_refl _, h, by simp⟩
    rw [decide_eq_true_eq] at h1
    subst h1
    exact h2
  · intro h
    obtain ⟨j, _, h1, h2⟩ := this.2 ⟨0, by omega, by simp, h⟩
    rw [decide_eq_true_eq] at h2
    subst h2
    exact h1
end Go.Proofs.YtkgifenidmbdkaaGreatDoor

/- Plain: where a variable begins, and where its name ends. -/
namespace Go.Proofs.YtkgifenidmbdkaaGreatDoor
open Go.RowKit

def pairAt (l : List UInt8) (j : Nat) : Prop := l[j]? = some 36 ∧ l[j + 1]? = some 40
theorem idx_spec : ∀ l : List UInt8, (Lib.index l [36, 40] = -1 ∧ ∀ j, ¬ pairAt l j) ∨ ∃ n : Nat, Lib.index l [36, 40] = (n : Int) ∧ pairAt l n ∧ ∀ j, j < n → ¬ pairAt l j := by
  intro l
  induction l with
  | nil => exact .inl ⟨rfl, fun j h => by simp [pairAt] at h⟩
  | cons c l ih =>
    rw [Lib.index, pre_pair]
    by_cases h : c = 36 ∧ l.head? = some 40
    · rw [decide_eq_true h, if_pos rfl]
      refine .inr ⟨0, rfl, ?_, fun j hj => by omega⟩
      obtain ⟨rfl, h2⟩ := h
      cases l with
      | nil => simp at h2
      | cons d l => simp at h2; subst h2; exact ⟨rfl, rfl⟩
    · rw [decide_eq_false h, if_neg (by decide)]
      have h0 : ¬ pairAt (c :: l) 0 := by
        rintro ⟨a, b⟩
        refine h ⟨by simpa using a, ?_⟩
        cases l with
        | nil => simp at b
        | cons d l => simpa using b
      have hs : ∀ j, pairAt (c :: l) (j + 1) ↔ pairAt l j := fun j => by unfold pairAt; simp
      rcases ih with ⟨h1, h2⟩ | ⟨n, h1, h2, h3⟩
      · rw [h1]
        refine .inl ⟨rfl, fun j => ?_⟩
        cases j with
        | zero => exact h0
        | succ j => rw [hs]; exact h2 j
      · rw [h1]
        refine .inr ⟨n + 1, ?_, (hs n).2 h2, fun j hj => ?_⟩
        · rw [if_neg (by simp <;> omega)]
          simp
        · cases j with
          | zero => exact h0
          | succ j => rw [hs]; exact h3 j (by omega)
/-- Where a variable begins, from a place on, and where its name ends; -1: none. -/
def nextP (p : ByteArray) (from_ : Nat) : Int × Int :=
  if Lib.index (p.extract from_ p.size).data.toList [36, 40] < 0 then (-1, -1)
  else ((from_ : Int) + Lib.index (p.extract from_ p.size).data.toList [36, 40],
    if cutH 41 (p.extract (from_ + (Lib.index (p.extract from_ p.size).data.toList [36, 40]).toNat + 2) p.size) = true
    then ((from_ + (Lib.index (p.extract from_ p.size).data.toList [36, 40]).toNat + 2 + (cutN 41 (p.extract (from_ + (Lib.index (p.extract from_ p.size).data.toList [36, 40]).toNat + 2) p.size)).size : Nat) : Int) else -1)
theorem ext_get (p : ByteArray) (k j : Nat) (hk : k ≤ p.size) : (p.extract k p.size).data.toList[j]? = if k + j < p.size then some (byteAt p (k + j)) else none := by
  have hl : (p.extract k p.size).data.toList.length = p.size - k := extract_tail_size p k hk
  by_cases h : k + j < p.size
  · rw [if_pos h, List.getElem?_eq_getElem (by omega), ← byteAt_extract p k j h]
    unfold byteAt
    rw [List.getD, List.getElem?_eq_getElem (by omega)]; rfl
  · rw [if_neg h, List.getElem?_eq_none (by omega)]
theorem pair_ext (p : ByteArray) (k j : Nat) (hk : k ≤ p.size) : pairAt (p.extract k p.size).data.toList j ↔ (k + j + 1 < p.size ∧ byteAt p (k + j) = 36 ∧ byteAt p (k + j + 1) = 40) := by
  unfold pairAt
  rw [ext_get p k j hk, ext_get p k (j + 1) hk]
  by_cases h : k + (j + 1) < p.size
  · rw [if_pos (by omega), if_pos h]
    simp only [Option.some.injEq]
    constructor
    · rintro ⟨a, b⟩; exact ⟨by omega, a, b⟩
    · rintro ⟨_, a, b⟩; exact ⟨a, b⟩
  · rw [if_neg h]
    constructor
    · rintro ⟨_, b⟩; cases b
    · rintro ⟨a, _⟩; omega
/-- No variable begins. -/
theorem nextP_none {p : ByteArray} {k : Nat} (hk : k ≤ p.size) (h : ∀ j, k ≤ j → j + 1 < p.size → ¬ (byteAt p j = 36 ∧ byteAt p (j + 1) = 40)) : nextP p k = (-1, -1) := by
  unfold nextP
  rcases idx_spec (p.extract k p.size).data.toList with ⟨h1, _⟩ | ⟨n, h1, h2, _⟩
  · rw [h1, if_pos (by decide)]
  · obtain ⟨a, b, c⟩ := (pair_ext p k n hk).1 h2
    exact absurd ⟨b, c⟩ (h (k + n) (by omega) a)
theorem idx_at {p : ByteArray} {k i : Nat} (hk : k ≤ i) (hi : i + 1 < p.size) (hp : byteAt p i = 36 ∧ byteAt p (i + 1) = 40) (h : ∀ j, k ≤ j → j < i → ¬ (byteAt p j = 36 ∧ byteAt p (j + 1) = 40)) : Lib.index (p.extract k p.size).data.toList [36, 40] = ((i - k : Nat) : Int) := by
  have hyes : pairAt (p.extract k p.size).data.toList (i - k) := (pair_ext p k (i - k) (by omega)).2 ⟨by omega, by rw [show k + (i - k) = i by omega]; exact hp.1, by rw [show k + (i - k) + 1 = i + 1 by omega]; exact hp.2⟩
  rcases idx_spec (p.extract k p.size).data.toList with ⟨_, h2⟩ | ⟨n, h1, h2, h3⟩
  · exact absurd hyes (h2 _)
  · obtain ⟨a, b, c⟩ := (pair_ext p k n (by omega)).1 h2
    have h4 : ¬ (i - k < n) := fun hlt => h3 _ hlt hyes
    have h5 : ¬ (n < i - k) := fun hlt => h (k + n) (by omega) (by omega) ⟨b, c⟩
    rw [h1]
    omega
theorem nextP_bad {p : ByteArray} {k i : Nat} (hk : k ≤ i) (hi : i + 1 < p.size) (hp : byteAt p i = 36 ∧ byteAt p (i + 1) = 40) (h : ∀ j, k ≤ j → j < i → ¬ (byteAt p j = 36 ∧ byteAt p (j + 1) = 40)) (hn : ∀ j, i + 2 ≤ j → j < p.size → byteAt p j ≠ 41) : nextP p k = ((i : Int), -1) := by
  unfold nextP
  rw [idx_at hk hi hp h, if_neg (by omega), Int.toNat_natCast, show k + (i - k) = i by omega]
  have hc : cutH 41 (p.extract (i + 2) p.size) = false := by
    have hs := extract_tail_size p (i + 2) (by omega)
    obtain ⟨m, hm, _, _, _, h4⟩ := cut_lim 41 (p.extract (i + 2) p.size)
    rcases h4 with ⟨_, _, h5⟩ | ⟨h5, h6, _⟩
    · exact h5
    · rw [byteAt_extract p (i + 2) m (by omega)] at h6
      exact absurd h6 (hn _ (by omega) (by omega))
  rw [if_neg (by rw [hc]; decide)]
  congr 1
  omega
theorem nextP_yes {p : ByteArray} {k i q : Nat} (hk : k ≤ i) (hp : byteAt p i = 36 ∧ byteAt p (i + 1) = 40) (h : ∀ j, k ≤ j → j < i → ¬ (byteAt p j = 36 ∧ byteAt p (j + 1) = 40)) (hq : i + 2 ≤ q) (hqs : q < p.size) (h41 : byteAt p q = 41) (hn : ∀ j, i + 2 ≤ j → j < q → byteAt p j ≠ 41) : nextP p k = ((i : Int), (q : Int)) := by
  unfold nextP
  rw [idx_at hk (by omega) hp h, if_neg (by omega), Int.toNat_natCast, show k + (i - k) = i by omega]
  have hs := extract_tail_size p (i + 2) (by omega)
  obtain ⟨m, hm, h3, _, hsz, h4⟩ := cut_lim 41 (p.extract (i + 2) p.size)
  have hmq : m = q - (i + 2) := by
    have h5 : ¬ m < q - (i + 2) := fun hlt => by
      rcases h4 with ⟨h6, _⟩ | ⟨_, h6, _⟩
      · omega
      · rw [byteAt_extract p (i + 2) m (by omega)] at h6
        exact hn _ (by omega) (by omega) h6
    have h6 : ¬ q - (i + 2) < m := fun hlt => by
      have := h3 _ hlt
      rw [byteAt_extract p (i + 2) (q - (i + 2)) (by omega), show i + 2 + (q - (i + 2)) = q by omega] at this
      exact this h41
    omega
  have hc : cutH 41 (p.extract (i + 2) p.size) = true := by
    rcases h4 with ⟨h6, _⟩ | ⟨_, _, _, h6⟩
    · omega
    · exact h6
  rw [if_pos hc, hsz, hmq]
  congr 1
  · omega
  · congr 1; omega
end Go.Proofs.YtkgifenidmbdkaaGreatDoor

/- Rows of strings of a call's own; two rows of strings held against each other; is a string among them. -/
namespace Go.Proofs.YtkgifenidmbdkaaGreatDoor
open Go.RowKit

theorem info_strS : (Tryz.prog.info? 9).map (fun i => (i.zero, i.size, i.bytes)) = some (some (.string ByteArray.empty), 1, 16) := by kernel_rfl
def OwnS (w : World) (base : Nat) (v : Value) (l : List ByteArray) : Prop := w.ownsRow base 9 1 v l.length (l.map strV)
theorem OwnS.below {w w' : World} {base : Nat} {v : Value} {l : List ByteArray} (h : OwnS w base v l) (hb : Below w.heap.size w w') : OwnS w' base v l := ownsRow_below h hb
theorem OwnS.drewN {w : World} {base : Nat} {v : Value} {l : List ByteArray} (h : OwnS w base v l) (m : Nat) : OwnS (w.drewN m) base v l := h
theorem OwnS.nil (w : World) (base : Nat) : OwnS w base (.slice none 0 0) [] := World.ownsRow_nil _ _ _ _
theorem OwnS.lit0 (w : World) (base : Nat) (hb : base ≤ w.heap.size) : OwnS (w.alloc (.cells #[] 9)) base (.slice (some ⟨w.heap.size, 0, none⟩) 0 0) [] :=
  World.ownsRow_lit w #[] 0 hb (Nat.zero_le _) rfl
theorem OwnS.under {w0 w w' : World} {base : Nat} {v : Value} {l : List ByteArray} (h : OwnS w base v l) (hb : Below w0.heap.size w0 w) (hB : w0.heap.size ≤ base) (hg : w.grownBy w' v.ownBlock) : Below w0.heap.size w0 w' :=
  hb.grown hg hb.size (fun j hj => Nat.le_trans hB (World.ownsRow.lt h j hj).1)
theorem OwnS.sl {w : World} {base : Nat} {v : Value} {l : List ByteArray} (h : OwnS w base v l) : ∃ a c, v = .slice a l.length c ∧ l.length ≤ c ∧ c ≤ maxLen ∧ RowSl w a (l.map strV) := by
  have := row_sl h (by simp)
  simpa using this
theorem wpList_app_str {w : World} {ops : Array Oper} {rest : List Oper} {o : Oper} {a : Act} {Q : Exit → Act → World → Prop} (hgd : o.guard = none) (s x : Operand) (ho : o.op = .call { callee := .builtin .append, args := #[s, x], argTypes := #[32, 32] })
    (base : Nat) (v : Value) (l : List ByteArray) (hs : a.eval s = v) (hown : OwnS w base v l) (g c : Nat) (p : ByteArray) (hx : a.eval x = .slice (some ⟨g, 0, none⟩) 1 c) (hb : w.heap[g]? = some (.cells #[.string p] 9 (0, 0)))
    (hl : l.length ≤ 1073741824) (hbase : base ≤ w.heap.size)
    (h : ∀ v' w', OwnS w' base v' (l ++ [p]) → w.grownBy w' v.ownBlock → wpList Tryz.prog ops Q rest (a.put o.dst v') w') : wpList Tryz.prog ops Q (o :: rest) a w := by
  obtain ⟨i, hi, hz, hsize, hby⟩ := info_parts info_strS
  refine wpList_append_own _ hgd s x 32 ho base 9 i _ 1 16 Tryz.underlying32 hi hz hsize hby rfl (by decide) v _ _ hs hown _ 1 c [strV p] hx rfl ?_ ?_ (by unfold maxLen; omega) (by omega) hbase ?_
  · intro j u hj
    match j, hj with
    | 0, hj =>
      simp at hj; subst hj
      rw [Addr.add_lit, Nat.zero_add, cell_of_row w g 0 _ _ _ hb]
      rfl
  · intro u hu; simp at hu; subst hu; rfl
  · intro v' w' h1 h2 _
    refine h v' w' ?_ h2
    unfold OwnS
    rw [List.length_append, List.map_append]
    exact h1
theorem RowSl.strs {w : World} {a : Option Addr} {l : List ByteArray} (h : RowSl w a (l.map strV)) (hne : 0 < l.length) : ∃ b, a = some ⟨b, 0, none⟩ ∧ b < w.heap.size ∧ ∀ j, j < l.length → w.cell? ⟨b, 0 + j, none⟩ = some (.string (l.getD j ByteArray.empty)) := by
  obtain ⟨x, hx⟩ : ∃ x, l[0]? = some x := ⟨_, List.getElem?_eq_getElem hne⟩
  obtain ⟨b, rfl, hb, _⟩ := h 0 (strV x) (by rw [List.getElem?_map, hx]; rfl)
  refine ⟨b, rfl, hb, fun j hj => ?_⟩
  obtain ⟨b', e, _, hc⟩ := h j (strV l[j]) (by rw [List.getElem?_map, List.getElem?_eq_getElem hj]; rfl)
  cases e
  rw [Nat.zero_add, hc]
  simp [strV, List.getD, hj]
set_option maxHeartbeats 1600000 in
theorem ref_SameR (a1 a2 : Option Addr) (c1 c2 : Nat) (l1 l2 : List ByteArray) (w : World) (h1 : RowSl w a1 (l1.map strV)) (h2 : RowSl w a2 (l2.map strV)) (hn1 : l1.length ≤ 16777216) (hn2 : l2.length ≤ 16777216) :
    Calls Tryz.prog 12 #[.slice a1 l1.length c1, .slice a2 l2.length c2] w fun e w' => e = .returned (.bool (decide (l1 = l2))) ∧ ∃ m, w.drewN m = w' := by
  by_cases hn : l1.length = l2.length
  · by_cases h0 : 0 < l1.length
    · obtain ⟨b1, rfl, _, k1⟩ := h1.strs h0
      obtain ⟨b2, rfl, _, k2⟩ := h2.strs (by omega)
      exact ref_Same b1 0 l1.length c1 b2 0 l2.length c2 l1 l2 w ⟨rfl, k1⟩ ⟨rfl, k2⟩ (by omega) (by omega)
    · obtain rfl : l1 = [] := List.eq_nil_of_length_eq_zero (by omega)
      obtain rfl : l2 = [] := List.eq_nil_of_length_eq_zero (by omega)
      show Calls Tryz.prog 12 #[.slice a1 0 c1, .slice a2 0 c2] w fun e w' => e = .returned (.bool true) ∧ ∃ m, w.drewN m = w'
      clear h1 h2 hn1 hn2 hn h0
      go_enter Tryz.func12, Tryz.ntmps12
      go_wp2_with fail
      go_loopw [5] (fun i wr => i = .int .i64 0 ∧ w = wr) (fun _ _ => 0)
      case atStart => exact ⟨rfl, rfl⟩
      case round =>
        obtain ⟨rfl, rfl⟩ := hrel
        go_wp2_with fail
        go_ret
        exact ⟨rfl, 0, rfl⟩
  · have e1 : ((l1.length : Int) != (l2.length : Int)) = true := by simp; omega
    have hne : l1 ≠ l2 := fun h => hn (by rw [h])
    have HNE := Lib.hid hne
    clear hne hn h1 h2
    go_enter Tryz.func12, Tryz.ntmps12
    go_wp2_with fail
    go_ret
    exact ⟨ret_bool (decide_eq_false HNE.out).symm, 0, rfl⟩
end Go.Proofs.YtkgifenidmbdkaaGreatDoor

/- subst.Names. -/
namespace Go.Proofs.YtkgifenidmbdkaaGreatDoor
open Go.RowKit

def namesL (l : List PcS) : List ByteArray := (l.filter (·.isVar)).map (·.text)
theorem namesL_len (l : List PcS) : (namesL l).length ≤ l.length := by
  unfold namesL
  rw [List.length_map]
  exact List.length_filter_le _ _
theorem namesL_step {l : List PcS} {i : Nat} {q : PcS} (h : l[i]? = some q) : namesL (l.take (i + 1)) = namesL (l.take i) ++ (if q.isVar = true then [q.text] else []) := by
  unfold namesL
  rw [List.take_add_one, h, List.filter_append, List.map_append]
  congr 1
  cases hq : q.isVar <;> simp [hq]
set_option maxHeartbeats 6400000 in
set_option maxRecDepth 100000 in
theorem sub_Names (p : ByteArray) (w : World) (hM : MaxAt w) (hp : p.size ≤ 16777216) :
    Calls Tryz.prog 13 #[.string p] w fun e w' => ∃ a c, e = .returned (.slice a (namesL (pcs p).1).length c) ∧ RowSl w' a ((namesL (pcs p).1).map strV) ∧ Below w.heap.size w w' := by
  go_enter Tryz.func13, Tryz.ntmps13
  go_wp2_with fail
  refine (sub_pieces p _ hM hp).mono ?_
  rintro e w2 ⟨v2, rfl, hown, hb2⟩
  have hlen := pcs_len p (p.size + 1) 0 (Nat.zero_le _)
  rw [show (pcF p (p.size + 1) 0).1 = (pcs p).1 from rfl] at hlen
  obtain ⟨a3, n3, c3, rfl⟩ := hown.shape3
  obtain ⟨hn3, hc3, hcm, hsl⟩ := hown.sl
  subst hn3
  unfold maxLen at hcm
  clear hown hM
  generalize hqq : (pcs p).1 = qs at *
  generalize (pcs p).2 = bd at *
  have HQ := Lib.hid hqq
  clear hqq
  go_wp2_with fail
  go_loopw [2, 14] (fun v x wr => ∃ i : Nat, i ≤ qs.length ∧ x = .int .i64 i ∧ OwnS wr w2.heap.size v (namesL (qs.take i)) ∧ Below w2.heap.size w2 wr) (fun _ x _ => qs.length - (intOf x).toNat)
  case atStart => exact ⟨0, Nat.zero_le _, rfl, OwnS.nil _ _, Below.refl _ _⟩
  case round =>
    obtain ⟨i, hil, rfl, hown, hbr⟩ := hrel
    by_cases hlt : i < qs.length
    · have hiI : (i : Int) < (qs.length : Int) := by omega
      obtain ⟨q, hq⟩ : ∃ q, qs[i]? = some q := ⟨_, List.getElem?_eq_getElem hlt⟩
      obtain ⟨b, ha, hbw, d0, d1, d2⟩ := (hsl.below hbr) i q hq
      have hnl : (namesL (qs.take i)).length ≤ 33554432 := by
        have h1 := namesL_len (qs.take i)
        have h2 := List.length_take_le i qs
        omega
      have HN := Lib.hid (namesL_step hq)
      obtain ⟨tx, iv, pl⟩ := q
      simp only at d0 d1 d2
      have hal : Below wr.heap.size wr (wr.alloc (.cells #[.string tx, .bool iv, .int .i64 (pl : Int)] 94)) := (Below.refl _ _).alloc (Nat.le_refl _) _
      have hbr3 := Bt hbr hal
      have hown3 := hown.below hal
      have hws := hbr.size
      subst ha
      clear hq hsl
      cases iv with
      | false =>
        have HN2 := Lib.hid (show namesL (qs.take (i + 1)) = namesL (qs.take i) by rw [HN.out]; simp)
        clear HN hown
        go_wp2_with fail
        go_roundw
        case rel => exact ⟨i + 1, by omega, by go_num, by rw [HN2.out]; exact hown3, hbr3⟩
        case measure => simp [intOf]; omega
      | true =>
        have HN2 := Lib.hid (show namesL (qs.take (i + 1)) = namesL (qs.take i) ++ [tx] by rw [HN.out]; simp)
        have hblk := heap_alloc_new (wr.alloc (.cells #[.string tx, .bool true, .int .i64 (pl : Int)] 94)) (.cells #[.string tx] 9)
        have hal4 : Below (wr.alloc (.cells #[.string tx, .bool true, .int .i64 (pl : Int)] 94)).heap.size (wr.alloc (.cells #[.string tx, .bool true, .int .i64 (pl : Int)] 94)) ((wr.alloc (.cells #[.string tx, .bool true, .int .i64 (pl : Int)] 94)).alloc (.cells #[.string tx] 9)) := (Below.refl _ _).alloc (Nat.le_refl _) _
        have hown4 := hown3.below hal4
        have hbr4 := Bt hbr3 hal4
        have hszC := hbr4.size
        rw [World.size_alloc] at hblk
        clear HN hown hown3 hal4
        generalize namesL (qs.take i) = nl at *
        go_wp2_with (at_builtin; refine wpList_app_str rfl (.tmp 20) (.tmp 23) rfl w2.heap.size _ _ rfl hown4 (wr.heap.size + 1) 1 tx rfl hblk (by omega) hszC ?_)
        intro v5 w5 hown5 hg5
        have hbr5 := hown4.under hbr4 (Nat.le_refl _) hg5
        clear hown4 hbr4 hg5 hblk
        go_wp2_with fail
        go_roundw
        case rel => exact ⟨i + 1, by omega, by go_num, by rw [HN2.out]; exact hown5, hbr5⟩
        case measure => simp [intOf]; omega
    · obtain rfl : i = qs.length := by omega
      rw [List.take_length] at hown
      obtain ⟨a, c, rfl, _, _, hrow⟩ := hown.sl
      have hb0 := Bt hb2 hbr
      clear hown
      go_wp2_with fail
      go_ret
      rw [HQ.out]
      exact ⟨a, c, rfl, hrow, hb0⟩
end Go.Proofs.YtkgifenidmbdkaaGreatDoor
