/- Items out of parts, one behind the other, as long as nothing is wrong: plain facts. -/
import Derived.Test.YtipenfeplampeaaDoorSubstPlainM5
import Derived.Test.YtipenfeplampeaaDoorShelf
import Derived.Shelf.Strings.SplitCore
import Derived.Test.YtipenfeplampeaaDoorSubstPlainM2
import Derived.Test.YtipenfeplampeaaDoorSubstPlainM4
import Derived.Test.YtipenfeplampeaaDoorSubstPlainM1
import Derived.Laws.OwnMore
import Derived.Deep.OwnRows

namespace Go.Proofs.YtipenfeplampeaaDoor

/-- What a part gives (are there as many items as may be?): nothing, an error's kind and place, or an item. -/
abbrev StepG := ByteArray → Bool → Option (Except (Nat × Nat) It)
structure RightG (g : StepG) : Prop where
  kind : ∀ p b k i, g p b = some (.error (k, i)) → k ≠ 0
  none : ∀ p b b', g p b = none → g p b' = none
  full : ∀ p x, g p true ≠ some (.ok x)
section
variable (g : StepG) (most : Nat)
/-- Parts' items behind those that there are, the error's kind, its place. -/
def goG : List ByteArray → Nat → List It → List It × Nat × Nat
  | [], _, acc => (acc, 0, 0)
  | p :: ps, at_, acc => match g p (decide (acc.length = most)) with
    | none => goG ps (at_ + p.size + 1) acc
    | some (.error (k, i)) => ([], k, at_ + i)
    | some (.ok x) => goG ps (at_ + p.size + 1) (acc ++ [x])
variable {g most} {p : ByteArray} {ps : List ByteArray} {at_ k i : Nat} {acc : List It} {x : It}
theorem goG_nil : goG g most [] at_ acc = (acc, 0, 0) := rfl
theorem goG_none (h : g p (decide (acc.length = most)) = none) : goG g most (p :: ps) at_ acc = goG g most ps (at_ + p.size + 1) acc := by rw [goG, h]
theorem goG_bad (h : g p (decide (acc.length = most)) = some (.error (k, i))) : goG g most (p :: ps) at_ acc = ([], k, at_ + i) := by rw [goG, h]
theorem goG_ok (h : g p (decide (acc.length = most)) = some (.ok x)) : goG g most (p :: ps) at_ acc = goG g most ps (at_ + p.size + 1) (acc ++ [x]) := by rw [goG, h]
end
/-- A part's three ways. -/
theorem goG_ways (g : StepG) (most : Nat) (p : ByteArray) (acc : List It) : g p (decide (acc.length = most)) = none ∨ (∃ k i, g p (decide (acc.length = most)) = some (.error (k, i))) ∨ ∃ x, g p (decide (acc.length = most)) = some (.ok x) := by
  cases g p (decide (acc.length = most)) with
  | none => exact .inl rfl
  | some r => cases r with
    | error e => exact .inr (.inl ⟨e.1, e.2, rfl⟩)
    | ok x => exact .inr (.inr ⟨x, rfl⟩)
section
variable {g : StepG} {most : Nat} (hg : RightG g)
include hg
theorem goG_len : ∀ (ps : List ByteArray) (at_ : Nat) (acc : List It), acc.length ≤ most → (goG g most ps at_ acc).1.length ≤ most
  | [], _, acc, h => h
  | p :: ps, at_, acc, h => by
    rcases goG_ways g most p acc with h1 | ⟨k, i, h1⟩ | ⟨x, h1⟩
    · rw [goG_none h1]; exact goG_len ps _ _ h
    · rw [goG_bad h1]; simp
    · rw [goG_ok h1]
      refine goG_len ps _ _ ?_
      have : acc.length ≠ most := fun e => by rw [decide_eq_true e] at h1; exact hg.full p x h1
      simp; omega
omit hg in
theorem goG_empty : ∀ (ps : List ByteArray) (at_ : Nat) (acc : List It), (goG g most ps at_ acc).2.1 ≠ 0 → (goG g most ps at_ acc).1 = []
  | [], _, acc, h => absurd rfl h
  | p :: ps, at_, acc, h => by
    rcases goG_ways g most p acc with h1 | ⟨k, i, h1⟩ | ⟨x, h1⟩
    · rw [goG_none h1] at h ⊢; exact goG_empty ps _ _ h
    · rw [goG_bad h1]
    · rw [goG_ok h1] at h ⊢; exact goG_empty ps _ _ h
theorem goG_zero : ∀ (ps : List ByteArray) (at_ : Nat) (acc : List It), (goG g most ps at_ acc).2.1 = 0 → (goG g most ps at_ acc).2.2 = 0
  | [], _, acc, h => rfl
  | p :: ps, at_, acc, h => by
    rcases goG_ways g most p acc with h1 | ⟨k, i, h1⟩ | ⟨x, h1⟩
    · rw [goG_none h1] at h ⊢; exact goG_zero ps _ _ h
    · rw [goG_bad h1] at h; exact absurd h (hg.kind _ _ _ _ h1)
    · rw [goG_ok h1] at h ⊢; exact goG_zero ps _ _ h
theorem goG_grow : ∀ (ps : List ByteArray) (at_ : Nat) (acc : List It), (goG g most ps at_ acc).2.1 = 0 → ∃ l, (goG g most ps at_ acc).1 = acc ++ l
  | [], _, acc, _ => ⟨[], by rw [goG_nil]; simp⟩
  | p :: ps, at_, acc, h => by
    rcases goG_ways g most p acc with h1 | ⟨k, i, h1⟩ | ⟨x, h1⟩
    · rw [goG_none h1] at h ⊢; exact goG_grow ps _ _ h
    · rw [goG_bad h1] at h; exact absurd h (hg.kind _ _ _ _ h1)
    · rw [goG_ok h1] at h ⊢
      obtain ⟨l, e⟩ := goG_grow ps _ _ h
      exact ⟨x :: l, by rw [e]; simp⟩
theorem goG_app : ∀ (ps qs : List ByteArray) (at_ : Nat) (acc : List It), goG g most (ps ++ qs) at_ acc = if (goG g most ps at_ acc).2.1 = 0 then goG g most qs (at_ + (ps.map fun p => p.size + 1).sum) (goG g most ps at_ acc).1 else goG g most ps at_ acc
  | [], qs, at_, acc => by simp [goG_nil]
  | p :: ps, qs, at_, acc => by
    rw [List.cons_append]
    have e : at_ + ((p :: ps).map fun p => p.size + 1).sum = at_ + p.size + 1 + (ps.map fun p => p.size + 1).sum := by rw [List.map_cons, List.sum_cons]; omega
    rcases goG_ways g most p acc with h1 | ⟨k, i, h1⟩ | ⟨x, h1⟩
    · rw [goG_none h1, goG_none h1, goG_app ps qs, e]
    · rw [goG_bad h1, goG_bad h1, if_neg (hg.kind _ _ _ _ h1)]
    · rw [goG_ok h1, goG_ok h1, goG_app ps qs, e]
/-- From another place, behind other items: the same items. -/
theorem goG_move : ∀ (ps : List ByteArray) (a1 a2 : Nat) (x acc : List It), (goG g most ps a1 acc).2.1 = 0 → x.length + (goG g most ps a1 acc).1.length ≤ most → goG g most ps a2 (x ++ acc) = (x ++ (goG g most ps a1 acc).1, 0, 0)
  | [], a1, a2, x, acc, _, _ => rfl
  | p :: ps, a1, a2, x, acc, h, h2 => by
    rcases goG_ways g most p acc with h1 | ⟨k, i, h1⟩ | ⟨y, h1⟩
    · rw [goG_none h1] at h h2 ⊢
      rw [goG_none (hg.none _ _ _ h1)]
      exact goG_move ps _ _ x acc h h2
    · rw [goG_bad h1] at h; exact absurd h (hg.kind _ _ _ _ h1)
    · rw [goG_ok h1] at h h2 ⊢
      obtain ⟨l, e⟩ := goG_grow hg ps _ _ h
      have hl := congrArg List.length e
      simp only [List.length_append, List.length_cons, List.length_nil] at hl
      have h3 : acc.length ≠ most := fun e => by rw [decide_eq_true e] at h1; exact hg.full p y h1
      have h4 : (x ++ acc).length ≠ most := by simp; omega
      rw [decide_eq_false h3] at h1
      have h5 : g p (decide ((x ++ acc).length = most)) = some (.ok y) := by rw [decide_eq_false h4]; exact h1
      rw [goG_ok h5, List.append_assoc]
      exact goG_move ps _ _ x (acc ++ [y]) h h2
end
/-- The parts of a text between marks. -/
def partsB (c : UInt8) (s : ByteArray) : List ByteArray := (splitL c s.data.toList).map ofL
theorem partsB_app (c : UInt8) (s t : ByteArray) : partsB c (s ++ ofL [c] ++ t) = partsB c s ++ partsB c t := by
  unfold partsB
  rw [← List.map_append, ← splitL_app c t.data.toList s.data.toList.length s.data.toList (Nat.le_refl _)]
  congr 2
  rw [ByteArray.data_append, ByteArray.data_append]
  simp [ofL]
section
variable {g : StepG} {most : Nat} (hg : RightG g)
include hg
theorem goG_both (c : UInt8) (s t : ByteArray) (h1 : (goG g most (partsB c s) 0 []).2.1 = 0) (h2 : (goG g most (partsB c t) 0 []).2.1 = 0) (h3 : (goG g most (partsB c s) 0 []).1.length + (goG g most (partsB c t) 0 []).1.length ≤ most) :
    goG g most (partsB c (s ++ ofL [c] ++ t)) 0 [] = ((goG g most (partsB c s) 0 []).1 ++ (goG g most (partsB c t) 0 []).1, 0, 0) := by
  rw [partsB_app, goG_app hg, if_pos h1]
  have := goG_move hg (partsB c t) 0 (0 + ((partsB c s).map fun p => p.size + 1).sum) (goG g most (partsB c s) 0 []).1 [] h2 h3
  rw [List.append_nil] at this
  exact this
theorem goG_first (c : UInt8) (s t : ByteArray) (h1 : (goG g most (partsB c s) 0 []).2.1 ≠ 0) : goG g most (partsB c (s ++ ofL [c] ++ t)) 0 [] = goG g most (partsB c s) 0 [] := by
  rw [partsB_app, goG_app hg, if_neg h1]
end
end Go.Proofs.YtipenfeplampeaaDoor

/- strings.Cut and strings.Split at a mark of one byte. -/
namespace Go.Proofs.YtipenfeplampeaaDoor
open Go.RowKit

theorem cut_full (s : ByteArray) (n : Nat) (h : n = s.size) : s.extract 0 n = s := by
  subst h
  apply ByteArray.ext
  apply Array.ext'
  rw [Lib.extract_data]
  have hl : s.data.toList.length = s.size := rfl
  rw [List.drop_zero, Nat.sub_zero, ← hl, List.take_length]
set_option maxHeartbeats 1600000 in
set_option maxRecDepth 100000 in
theorem lite_Cut1 (s : ByteArray) (c : UInt8) (w : World) (hs : s.size ≤ 16777216) : Calls Tryd.prog 61 #[.string s, .string ⟨#[c]⟩] w fun e w' => e = .returned (.tuple #[.string (cutN c s), .string (cutV c s), .bool (cutH c s)]) ∧ ∃ q, w.drewN q = w' := by
  have cI := Lib.hid (Tryd.stringslite_Index_one s c)
  have h1 : (⟨#[c]⟩ : ByteArray).size = 1 := rfl
  rcases cut_ways c s with ⟨hi, e1, e2, e3, _⟩ | ⟨i, hi, hlt, e1, e2, e3, _⟩
  · rw [e1, e2, e3]
    rw [hi] at cI
    clear hi e1 e2 e3
    go_enter Tryd.func61, Tryd.ntmps61
    go_wp2_with fail
    refine (cI.out _).mono ?_
    rintro e w1 ⟨rfl, rfl⟩
    go_wp2_with fail
    go_ret3
    exact ⟨rfl, 0, rfl⟩
  · rw [e1, e2, e3]
    rw [hi] at cI
    clear hi e1 e2 e3
    go_enter Tryd.func61, Tryd.ntmps61
    go_wp2_with fail
    refine (cI.out _).mono ?_
    rintro e w1 ⟨rfl, rfl⟩
    go_wp2_with fail
    go_quiet (fail)
    go_wp2_with fail
    go_ret3
    exact ⟨rfl, _, rfl⟩
theorem strings_Cut1 (s : ByteArray) (c : UInt8) (w : World) (hs : s.size ≤ 16777216) : Calls Tryd.prog 46 #[.string s, .string ⟨#[c]⟩] w fun e w' => e = .returned (.tuple #[.string (cutN c s), .string (cutV c s), .bool (cutH c s)]) ∧ ∃ q, w.drewN q = w' := by
  have cI := Lib.hid (fun W => lite_Cut1 s c W hs)
  generalize cutN c s = a at *
  generalize cutV c s = b at *
  generalize cutH c s = h at *
  go_enter Tryd.func46, Tryd.ntmps46
  go_wp2_with fail
  refine (cI.out _).mono ?_
  rintro e w1 ⟨rfl, q, rfl⟩
  go_wp2_with fail
  go_ret3
  exact ⟨rfl, _, rfl⟩

theorem split_pieces (c : UInt8) (s : ByteArray) : Lib.splitB ⟨#[c]⟩ 0 (Lib.countB s ⟨#[c]⟩) s = partsB c s := by
  have h := splitB_is c s
  unfold partsB
  rw [← h, List.map_map]
  conv => lhs; rw [← List.map_id (Lib.splitB _ _ _ _)]
  apply List.map_congr_left
  intro x _
  show x = ofL x.data.toList
  exact (ofL_list x).symm
theorem info_str : (Tryd.prog.info? 9).map (fun i => (i.zero, i.size, i.bytes)) = some (some (.string ByteArray.empty), 1, 16) := by kernel_rfl
theorem sum_mem : ∀ (l : List Nat) (x : Nat), x ∈ l → x ≤ l.sum
  | y :: l, x, h => by
    rcases List.mem_cons.1 h with rfl | h
    · rw [List.sum_cons]; omega
    · have := sum_mem l x h; rw [List.sum_cons]; omega
/-- The parts lie in a row. -/
theorem parts_cells (w : World) (ps : List ByteArray) : ∀ i p, ps[i]? = some p → (w.alloc (.cells (ps.map Value.string).toArray 9)).cell? ⟨w.heap.size, i, none⟩ = some (.string p) := by
  intro i p h
  rw [World.cell?_alloc_at _ _ _ _ rfl]
  simp [h]
theorem partsB_sizes (c : UInt8) (s : ByteArray) : ∀ p ∈ partsB c s, p.size ≤ s.size := by
  intro p hp
  unfold partsB at hp
  obtain ⟨l, hl, rfl⟩ := List.mem_map.1 hp
  have h := splitL_len c _ s.data.toList (Nat.le_refl _)
  have hs : s.data.toList.length = s.size := rfl
  have h2 : l.length ≤ ((splitL c s.data.toList).map List.length).sum := sum_mem _ _ (List.mem_map.2 ⟨l, hl, rfl⟩)
  have h3 : 1 ≤ (splitL c s.data.toList).length := List.length_pos_iff.2 (splitL_ne c _)
  rw [ofL_size]
  omega
theorem partsB_len (c : UInt8) (s : ByteArray) : (partsB c s).length ≤ s.size + 1 := by
  have h := splitL_len c _ s.data.toList (Nat.le_refl _)
  have hs : s.data.toList.length = s.size := rfl
  unfold partsB
  rw [List.length_map]
  omega
end Go.Proofs.YtipenfeplampeaaDoor

/- Plain: patterns with variables. -/
namespace Go.Proofs.YtipenfeplampeaaDoor

def ownC (s : ByteArray) : Option (ByteArray × Nat) := (clsT.find? fun c => decide (c.1 = s)).map (·.2)
abbrev SVar := ByteArray × List ByteArray
def findV (vars : List SVar) (name : ByteArray) : Option (List ByteArray) := (vars.find? fun v => decide (v.1 = name)).map (·.2)
def isLet (c : Nat) : Bool := decide (65 ≤ c ∧ c ≤ 90) || decide (97 ≤ c ∧ c ≤ 122)
def turnC (c : Nat) : Nat := if 65 ≤ c ∧ c ≤ 90 then c + 32 else if 97 ≤ c ∧ c ≤ 122 then c - 32 else c
def withinB (fold : Bool) (among : ByteArray) (c : Nat) : Bool := decide (c < 128) && (hasB among (UInt8.ofNat c) || (fold && hasB among (UInt8.ofNat (turnC c))))
def alikeB (fold : Bool) (p c : Nat) : Bool := decide (p = 63) || (decide (p = c) || (fold && decide (turnC p = c)))
theorem alike_stands {x : Nat} (c : Nat) (fold : Bool) (h : x ≠ 42) : standsB (partOf x) c fold = alikeB fold x c := by
  unfold alikeB
  by_cases h1 : x = 63
  · subst h1; rfl
  · rw [partOf_char h h1, decide_eq_false h1, Bool.false_or]
    show (false || (decide (x = c) || (fold && decide (smallC x = smallC c)))) = _
    rw [Bool.false_or]
    have : (x = c ∨ smallC x = smallC c) ↔ (x = c ∨ turnC x = c) := by
      unfold smallC turnC
      split <;> split <;> (try split) <;> omega
    cases fold
    · simp
    · rw [Bool.eq_iff_iff]
      simpa using this
theorem many_star (x : Nat) : (partOf x).many = decide (x = 42) := by
  unfold partOf
  by_cases h : x = 42
  · rw [if_pos h, decide_eq_true h]
  · rw [if_neg h, decide_eq_false h]
    split <;> rfl
/-- A part of a pattern: a variable, or what is between variables, and where it begins. -/
structure PcS where
  text : ByteArray
  isVar : Bool
  place : Nat
/-- The parts from a place on, and where a variable has no end (-1: none). -/
def pcF (p : ByteArray) : Nat → Nat → List PcS × Int
  | 0, _ => ([], -1)
  | f + 1, at_ => if at_ < p.size then
      (if Lib.index (p.extract at_ p.size).data.toList [36, 40] < 0 then ([⟨p.extract at_ p.size, false, at_⟩], -1)
       else if cutH 41 (p.extract (at_ + (Lib.index (p.extract at_ p.size).data.toList [36, 40]).toNat + 2) p.size) = true then
          ((if 0 < Lib.index (p.extract at_ p.size).data.toList [36, 40] then [⟨p.extract at_ (at_ + (Lib.index (p.extract at_ p.size).data.toList [36, 40]).toNat), false, at_⟩] else []) ++
            ⟨cutN 41 (p.extract (at_ + (Lib.index (p.extract at_ p.size).data.toList [36, 40]).toNat + 2) p.size), true, at_ + (Lib.index (p.extract at_ p.size).data.toList [36, 40]).toNat⟩ ::
            (pcF p f (at_ + (Lib.index (p.extract at_ p.size).data.toList [36, 40]).toNat + 2 + (cutN 41 (p.extract (at_ + (Lib.index (p.extract at_ p.size).data.toList [36, 40]).toNat + 2) p.size)).size + 1)).1,
           (pcF p f (at_ + (Lib.index (p.extract at_ p.size).data.toList [36, 40]).toNat + 2 + (cutN 41 (p.extract (at_ + (Lib.index (p.extract at_ p.size).data.toList [36, 40]).toNat + 2) p.size)).size + 1)).2)
        else (if 0 < Lib.index (p.extract at_ p.size).data.toList [36, 40] then [⟨p.extract at_ (at_ + (Lib.index (p.extract at_ p.size).data.toList [36, 40]).toNat), false, at_⟩] else [], (at_ + (Lib.index (p.extract at_ p.size).data.toList [36, 40]).toNat : Nat)))
    else ([], -1)
def pcs (p : ByteArray) : List PcS × Int := pcF p (p.size + 1) 0
/-- What is wrong with a pattern with variables. -/
def missV (vars : List SVar) : List PcS → Option Nat
  | [] => none
  | q :: qs => if q.isVar = true ∧ (ownC q.text).isNone = true ∧ (findV vars q.text).isNone = true then some q.place else missV vars qs
def okV (p : ByteArray) (vars : List SVar) : Bool := okP p && ((missV vars (pcs p).1).isNone && decide ((pcs p).2 < 0))
/-- The places that are reached by texts in a pattern's language. -/
def patR (fold : Bool) (cs : List Nat) (v : ByteArray) (fr : Nat → Bool) (j : Nat) : Bool := okP v && (List.range (j + 1)).any fun i => fr i && langB fold (patP v) (segL cs i j)
def clsR (fold : Bool) (cs : List Nat) (among : ByteArray) (size : Nat) (fr : Nat → Bool) (j : Nat) : Bool := decide (size ≤ j) && (fr (j - size) && (segL cs (j - size) j).all (withinB fold among))
def stepR (fold : Bool) (cs : List Nat) (vars : List SVar) (q : PcS) (fr : Nat → Bool) (j : Nat) : Bool :=
  if q.isVar = true then match ownC q.text with
    | some (among, size) => clsR fold cs among size fr j
    | none => ((findV vars q.text).getD []).any fun v => patR fold cs v fr j
  else patR fold cs q.text fr j
def runR (fold : Bool) (cs : List Nat) (vars : List SVar) : List PcS → (Nat → Bool) → Nat → Bool
  | [], fr => fr
  | q :: qs, fr => runR fold cs vars qs (stepR fold cs vars q fr)
/-- Whether a text is in the language of a pattern with variables. -/
def subM (p : ByteArray) (vars : List SVar) (s : ByteArray) (fold : Bool) : Bool :=
  (chrs s).2.isNone && (okV p vars && runR fold (chrs s).1 vars (pcs p).1 (fun i => decide (i = 0)) (chrs s).1.length)
theorem patR_run {fold : Bool} {cs : List Nat} {v : ByteArray} {fr : Nat → Bool} (h : okP v = true) (j : Nat) : patR fold cs v fr j = nS fold (patP v) cs fr j (patP v).length := by
  unfold patR
  rw [h, Bool.true_and, Bool.eq_iff_iff, nS_end, List.any_eq_true]
  constructor
  · rintro ⟨i, hi, h2⟩
    rw [Bool.and_eq_true] at h2
    exact ⟨i, by have := List.mem_range.1 hi; omega, h2.1, h2.2⟩
  · rintro ⟨i, hi, h2, h3⟩
    exact ⟨i, List.mem_range.2 (by omega), by rw [h2, h3]; rfl⟩
theorem patR_no {fold : Bool} {cs : List Nat} {v : ByteArray} {fr : Nat → Bool} (h : okP v = false) (j : Nat) : patR fold cs v fr j = false := by
  unfold patR; rw [h]; rfl
end Go.Proofs.YtipenfeplampeaaDoor

/- The code's ints. -/
namespace Go.Proofs.YtipenfeplampeaaDoor
open Go.RowKit

theorem info_int : (Tryd.prog.info? 3).map (fun i => (i.zero, i.size, i.bytes)) = some (some (.int .i64 0), 1, 8) := by kernel_rfl
def intV (n : Nat) : Value := .int .i64 (n : Int)
end Go.Proofs.YtipenfeplampeaaDoor

/- A loop that writes into a call's own bytes: nothing else turns. -/
namespace Go.Proofs.YtipenfeplampeaaDoor
open Go.RowKit

/-- Block g is a row of at least n bytes that may be written. -/
def RowAt (w : World) (g n : Nat) : Prop := ∃ cur, w.heap[g]? = some (.cells cur 5 (0, 0)) ∧ n ≤ cur.size
theorem RowAt.cell {w : World} {g n i : Nat} (h : RowAt w g n) (hi : i < n) : ∃ u, w.cell? ⟨g, i, none⟩ = some u := by
  obtain ⟨cur, hh, hn⟩ := h
  rw [World.cell?, hh]
  simp
  exact ⟨cur[i]'(by omega), by rw [Array.getElem?_eq_getElem (by omega)]⟩
theorem RowAt.frozen {w : World} {g n i : Nat} (h : RowAt w g n) : w.frozen? ⟨g, i, none⟩ = false := by
  obtain ⟨cur, hh, hn⟩ := h
  simp [World.frozen?, hh]
theorem RowAt.store {w : World} {g n i : Nat} (h : RowAt w g n) (u : Value) : RowAt (w.setCell ⟨g, i, none⟩ u) g n := by
  obtain ⟨cur, hh, hn⟩ := h
  refine ⟨cur.setIfInBounds i u, ?_, by simpa using hn⟩
  simp only [World.setCell, Array.getElem?_modify, hh]
  simp
theorem OwnB.rowAt {w : World} {base g cap : Nat} {l : List UInt8} (h : OwnB w base (.slice (some ⟨g, 0, none⟩) l.length cap) l) : RowAt w g l.length := by
  rcases h.2 with ⟨h0, _⟩ | ⟨g', cap', cur, h0, _, hh, h1, _, h2, _⟩
  · cases h0
  · cases h0
    exact ⟨cur, hh, by omega⟩
theorem row_cell {w : World} {base n c i : Nat} {e : TypeId} {p : Option Addr} {xs : List Value} (h : w.ownsRow base e 1 (.slice p n c) n xs) (hi : i < n) : ∃ g, p = some ⟨g, 0, none⟩ ∧ w.cell? ⟨g, i, none⟩ = xs[i]? ∧ n ≤ c ∧ c ≤ maxLen := by
  have h' := h
  rcases h.2 with ⟨e0, e1⟩ | ⟨g, cap, cur, e0, _, _, h1, h2, _⟩
  · omega
  · cases e0
    exact ⟨g, rfl, h'.cellAt i (by omega), h1, h2⟩
theorem grown_refl (w : World) (row : Option Nat) : w.grownBy w row := ⟨rfl, rfl, rfl, Nat.le_refl _, fun _ _ _ => rfl⟩
theorem grown_trans {w w1 w2 : World} {row : Option Nat} (h1 : w.grownBy w1 row) (h2 : w1.grownBy w2 row) : w.grownBy w2 row :=
  ⟨h2.os.trans h1.os, h2.tape.trans h1.tape, h2.output.trans h1.output, Nat.le_trans h1.size h2.size, fun k hk hr => (h2.block k (Nat.lt_of_lt_of_le hk h1.size) hr).trans (h1.block k hk hr)⟩
theorem grown_set (w : World) (a : Addr) (u : Value) : w.grownBy (w.setCell a u) (some a.block) := by
  have hb : Below 0 w (w.setCell a u) := (Below.refl 0 w).setCell (Nat.zero_le _) u
  exact ⟨hb.os, hb.tape, hb.output, by simp [World.setCell], fun k _ hr => Below.heap_setCell w a u k (fun h => hr (by rw [h]))⟩
theorem FaultIs.fill {w w' : World} {g n : Nat} {v : Value} {k i : Int} {u : Value} (h : FaultIs w v k i u) (hr : RowAt w g n) (hg : w.grownBy w' (some g)) : FaultIs w' v k i u := by
  obtain ⟨b, rfl, hb⟩ := h
  obtain ⟨cur, hh, _⟩ := hr
  refine ⟨b, rfl, ?_⟩
  rw [hg.block b (lt_of_block hb) (fun e => by
    cases e
    rw [hb] at hh
    cases hh)]
  exact hb
theorem FaultIs.fill' {w w' : World} {base n c : Nat} {p : Option Addr} {l : List UInt8} {v : Value} {k i : Int} {u : Value} (h : FaultIs w v k i u) (ho : OwnB w base (.slice p n c) l) (hg : w.grownBy w' (Value.slice p n c).ownBlock) : FaultIs w' v k i u := by
  rcases ho.shape with ⟨_, e⟩ | ⟨g, cap, e, _⟩
  · cases e
    obtain ⟨b, rfl, hb⟩ := h
    exact ⟨b, rfl, (hg.block b (lt_of_block hb) (fun e => by cases e)).trans hb⟩
  · cases e
    exact h.fill ho.rowAt hg
theorem row_fill {w w' : World} {B n c k : Nat} {p : Option Addr} {e : TypeId} {size : Nat} {v : Value} {xs : List Value} (h : w.ownsRow B e size v k xs) (hB : ∀ g, (Value.slice p n c).ownBlock = some g → g < B) (hg : w.grownBy w' (Value.slice p n c).ownBlock) : w'.ownsRow B e size v k xs := by
  refine h.kept hg ?_
  cases hv : v.ownBlock with
  | none => exact .inl rfl
  | some b =>
    refine .inr fun e => ?_
    have h1 := (World.ownsRow.lt h b hv).1
    have h2 := hB b e.symm
    omega

/-- What stands while a loop writes into a call's own bytes. -/
def FillRel (w4 : World) (p : Option Addr) (n c : Nat) (wr : World) : Prop := w4.grownBy wr (Value.slice p n c).ownBlock ∧ (0 < n → ∃ g, p = some ⟨g, 0, none⟩ ∧ RowAt wr g n)
theorem FillRel.start {w : World} {base n c : Nat} {p : Option Addr} {l : List UInt8} (h : OwnB w base (.slice p n c) l) (hn : l.length = n) : FillRel w p n c w := by
  refine ⟨grown_refl _ _, fun h0 => ?_⟩
  subst hn
  rcases h.shape with ⟨e, _⟩ | ⟨g, cap, e, _⟩
  · subst e; simp at h0
  · cases e
    exact ⟨g, rfl, h.rowAt⟩
theorem FillRel.cell {w4 wr : World} {n c i : Nat} {p : Option Addr} (h : FillRel w4 p n c wr) (hi : i < n) :
    ∃ g, p = some ⟨g, 0, none⟩ ∧ (∃ u, wr.cell? ⟨g, i, none⟩ = some u) ∧ wr.frozen? ⟨g, i, none⟩ = false ∧ ∀ u, FillRel w4 p n c (wr.setCell ⟨g, i, none⟩ u) := by
  obtain ⟨hg, hr⟩ := h
  obtain ⟨g, rfl, hrow⟩ := hr (by omega)
  exact ⟨g, rfl, hrow.cell hi, hrow.frozen, fun u => ⟨grown_trans hg (grown_set wr ⟨g, i, none⟩ u), fun _ => ⟨g, rfl, hrow.store u⟩⟩⟩
end Go.Proofs.YtipenfeplampeaaDoor

/- Parts of patterns with variables, in memory. -/
namespace Go.Proofs.YtipenfeplampeaaDoor
open Go.RowKit

theorem info_piece : (Tryd.prog.info? 73).map (fun i => (i.zero, i.size, i.bytes)) = some (some (.agg #[.string ⟨#[]⟩, .bool false, .int .i64 0]), 3, 32) := by kernel_rfl

def pieceCells (p : PcS) : List Value := [.string p.text, .bool p.isVar, .int .i64 (p.place : Int)]
def piecesV (l : List PcS) : List Value := l.flatMap pieceCells
theorem piecesV_len (l : List PcS) : (piecesV l).length = l.length * 3 := by
  induction l with
  | nil => rfl
  | cons p l ih =>
    unfold piecesV at ih ⊢
    rw [List.flatMap_cons, List.length_append, ih, List.length_cons]
    show 3 + _ = _
    omega
theorem piecesV_app (a b : List PcS) : piecesV (a ++ b) = piecesV a ++ piecesV b := by unfold piecesV; exact List.flatMap_append
theorem piecesV_at {l : List PcS} {i : Nat} {p : PcS} (h : l[i]? = some p) (j : Nat) (hj : j < 3) : (piecesV l)[i * 3 + j]? = (pieceCells p)[j]? := by
  induction l generalizing i with
  | nil => simp at h
  | cons q l ih =>
    cases i with
    | zero =>
      simp at h; subst h
      show (pieceCells q ++ piecesV l)[0 * 3 + j]? = _
      rw [List.getElem?_append_left (by show _ < 3; omega)]
      congr 1; omega
    | succ i =>
      simp at h
      show (pieceCells q ++ piecesV l)[(i + 1) * 3 + j]? = _
      rw [List.getElem?_append_right (by show 3 ≤ _; omega), ← ih h]
      congr 1
      show (i + 1) * 3 + j - 3 = _
      omega
theorem piecesV_one (p : PcS) : ∀ u ∈ pieceCells p, u.oneCell' = true := by
  intro u hu
  unfold pieceCells at hu
  simp at hu
  rcases hu with rfl | rfl | rfl <;> rfl

def OwnPc (w : World) (base : Nat) (v : Value) (l : List PcS) : Prop := w.ownsRow base 73 3 v l.length (piecesV l)

theorem OwnPc.below {w w' : World} {base : Nat} {v : Value} {l : List PcS} (h : OwnPc w base v l) (hb : Below w.heap.size w w') : OwnPc w' base v l := ownsRow_below h hb
theorem OwnPc.nil (w : World) (base : Nat) : OwnPc w base (.slice none 0 0) [] := World.ownsRow_nil _ _ _ _
theorem OwnPc.under {w0 w w' : World} {base : Nat} {v : Value} {l : List PcS} (h : OwnPc w base v l) (hb : Below w0.heap.size w0 w) (hB : w0.heap.size ≤ base) (hg : w.grownBy w' v.ownBlock) : Below w0.heap.size w0 w' :=
  hb.grown hg hb.size (fun j hj => Nat.le_trans hB (World.ownsRow.lt h j hj).1)
theorem wpList_app_piece {w : World} {ops : Array Oper} {rest : List Oper} {o : Oper} {a : Act} {Q : Exit → Act → World → Prop} (hgd : o.guard = none) (s x : Operand) (ho : o.op = .call { callee := .builtin .append, args := #[s, x], argTypes := #[69, 69] })
    (base : Nat) (v : Value) (l : List PcS) (hs : a.eval s = v) (hown : OwnPc w base v l) (g c : Nat) (p : PcS) (hx : a.eval x = .slice (some ⟨g, 0, none⟩) 1 c) (hb : w.heap[g]? = some (.cells (pieceCells p).toArray 73 (0, 0)))
    (hl : l.length ≤ 1073741824) (hbase : base ≤ w.heap.size)
    (h : ∀ v' w', OwnPc w' base v' (l ++ [p]) → w.grownBy w' v.ownBlock → wpList Tryd.prog ops Q rest (a.put o.dst v') w') : wpList Tryd.prog ops Q (o :: rest) a w := by
  obtain ⟨i, hi, hz, hsize, hby⟩ := info_parts info_piece
  refine wpList_append_own _ hgd s x 69 ho base 73 i _ 3 32 Tryd.underlying69 hi hz hsize hby rfl (by decide) v _ _ hs hown _ 1 c (pieceCells p) hx rfl ?_ (piecesV_one p) (by unfold maxLen; omega) (by omega) hbase ?_
  · intro j u hj
    rw [Addr.add_lit, Nat.zero_add, cell_of_row w g j _ _ _ hb, ← hj]
    simp
  · intro v' w' h1 h2 _
    refine h v' w' ?_ h2
    unfold OwnPc
    rw [List.length_append, piecesV_app]
    have : piecesV [p] = pieceCells p := by unfold piecesV; simp
    rw [this]
    exact h1

theorem OwnPc.shape3 {w : World} {base : Nat} {v : Value} {l : List PcS} (h : OwnPc w base v l) : ∃ a n c, v = .slice a n c := by
  unfold OwnPc at h
  rcases h.2 with ⟨e0, _⟩ | ⟨g, cap, cur, e0, _⟩
  · exact ⟨_, _, _, e0⟩
  · exact ⟨_, _, _, e0⟩
/-- A slice of parts. -/
def PcsSl (w : World) (a : Option Addr) (l : List PcS) : Prop := ∀ (i : Nat) (p : PcS), l[i]? = some p → ∃ b, a = some ⟨b, 0, none⟩ ∧ b < w.heap.size ∧
  w.cell? ⟨b, i * 3, none⟩ = some (.string p.text) ∧ w.cell? ⟨b, i * 3 + 1, none⟩ = some (.bool p.isVar) ∧ w.cell? ⟨b, i * 3 + 2, none⟩ = some (.int .i64 (p.place : Int))
theorem PcsSl.below {w w' : World} {a : Option Addr} {l : List PcS} (h : PcsSl w a l) (hb : Below w.heap.size w w') : PcsSl w' a l := by
  intro i p hp
  obtain ⟨b, e, hlt, h1, h2, h3⟩ := h i p hp
  exact ⟨b, e, Nat.lt_of_lt_of_le hlt hb.size, (hb.cell (p := ⟨b, i * 3, none⟩) hlt).trans h1, (hb.cell (p := ⟨b, i * 3 + 1, none⟩) hlt).trans h2, (hb.cell (p := ⟨b, i * 3 + 2, none⟩) hlt).trans h3⟩
theorem OwnPc.sl {w : World} {base n c : Nat} {a : Option Addr} {l : List PcS} (h : OwnPc w base (.slice a n c) l) : n = l.length ∧ n ≤ c ∧ c ≤ maxLen ∧ PcsSl w a l := by
  unfold OwnPc at h
  rcases h.2 with ⟨e0, e1⟩ | ⟨g, cap, cur, e0, hg, hh, h1, h2, _⟩
  · cases e0
    refine ⟨e1.symm, Nat.le_refl _, by unfold maxLen; omega, fun i p hp => ?_⟩
    have := (List.getElem?_eq_some_iff.1 hp).1
    omega
  · cases e0
    refine ⟨rfl, h1, h2, fun i p hp => ?_⟩
    have hc := h.cells (g := g) rfl
    have c0 := hc (i * 3 + 0) _ ((piecesV_at hp 0 (by omega)).trans rfl)
    have c1 := hc (i * 3 + 1) _ ((piecesV_at hp 1 (by omega)).trans rfl)
    have c2 := hc (i * 3 + 2) _ ((piecesV_at hp 2 (by omega)).trans rfl)
    simp only [Addr.add_lit, Nat.zero_add, Nat.add_zero] at c0 c1 c2
    exact ⟨g, rfl, lt_of_block hh, c0, c1, c2⟩

end Go.Proofs.YtipenfeplampeaaDoor

/- A variable of the library that is read on the way. -/
namespace Go.Proofs.YtipenfeplampeaaDoor
open Go.RowKit

/-- The variable of the library that is read on the way: it holds some number. -/
def MaxAt (w : World) : Prop := ∃ m, w.cell? ⟨2, 0, none⟩ = some (.int .i64 m)
theorem MaxAt.below {w w' : World} (h : MaxAt w) (hb : Below w.heap.size w w') : MaxAt w' := by
  obtain ⟨m, hm⟩ := h
  have hlt : 2 < w.heap.size := by
    unfold World.cell? at hm
    cases hh : w.heap[(⟨2, 0, none⟩ : Addr).block]? with
    | none => rw [hh] at hm; simp at hm
    | some o => exact (Array.getElem?_eq_some_iff.1 hh).1
  exact ⟨m, (hb.cell (p := ⟨2, 0, none⟩) hlt).trans hm⟩
end Go.Proofs.YtipenfeplampeaaDoor
