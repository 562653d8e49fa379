/- slices.Insert of one number into a row of the call's own. -/
import Derived.Test.YtibhohpamnpkcaaGreatDoorRouteOrderM1
import Derived.Test.YtibhohpamnpkcaaGreatDoorShelf
import Derived.Test.YtibhohpamnpkcaaGreatDoorRouteOrderM5
import Derived.Laws.IdiomCopy
import Derived.Shelf.Spec.SlicesInsertGrow
import Derived.Test.YtibhohpamnpkcaaGreatDoorRouteOrderM6
import Derived.Test.YtibhohpamnpkcaaGreatDoorRouteOrderM3
import Derived.Maps.AppendAt
import Derived.Test.YtibhohpamnpkcaaGreatDoorRouteOrderM2
import Derived.BigQuiet
import Derived.Lib.LastIndexByte

namespace Go.Proofs.YtibhohpamnpkcaaGreatDoor
open Go.RowKit

theorem heap_setCells (b : Nat) : ∀ (vs : List Value) (o : Nat) (w : World) (cur : Array Value) (e : TypeId), w.heap[b]? = some (.cells cur e (0, 0)) → o + vs.length ≤ cur.size →
    ∃ cur' : Array Value, (w.setCells b o vs).heap[b]? = some (.cells cur' e (0, 0)) ∧ cur'.size = cur.size ∧ ∀ j, cur'[j]? = if o ≤ j ∧ j < o + vs.length then vs[j - o]? else cur[j]? := by
  intro vs
  induction vs with
  | nil => intro o w cur e h _; exact ⟨cur, h, rfl, fun j => by rw [if_neg (by simp only [List.length_nil]; omega)]⟩
  | cons v vs ih =>
    intro o w cur e h hl
    simp only [List.length_cons] at hl
    have h1 : (w.setCell ⟨b, o, none⟩ v).heap[b]? = some (.cells (cur.setIfInBounds o v) e (0, 0)) := by simp [World.setCell, Array.getElem?_modify, h]
    obtain ⟨cur', h2, h3, h4⟩ := ih (o + 1) _ _ e h1 (by simp; omega)
    refine ⟨cur', h2, by rw [h3]; simp, fun j => ?_⟩
    rw [h4 j]
    simp only [List.length_cons]
    by_cases a : o + 1 ≤ j ∧ j < o + 1 + vs.length
    · rw [if_pos a, if_pos (by omega)]
      obtain ⟨k, rfl⟩ : ∃ k, j = o + 1 + k := ⟨j - (o + 1), by omega⟩
      rw [show o + 1 + k - (o + 1) = k by omega, show o + 1 + k - o = k + 1 by omega]
      rfl
    · rw [if_neg a, Array.getElem?_setIfInBounds]
      by_cases c : o = j
      · subst c
        rw [if_pos rfl, if_pos (by omega), if_pos (by omega), Nat.sub_self]
        rfl
      · rw [if_neg c, if_neg (by omega)]
theorem setCells_grownBy (b : Nat) : ∀ (vs : List Value) (o : Nat) (w : World), w.grownBy (w.setCells b o vs) (some b) := by
  intro vs
  induction vs with
  | nil => intro o w; exact ⟨rfl, rfl, rfl, Nat.le_refl _, fun _ _ _ => rfl⟩
  | cons v vs ih =>
    intro o w
    have h := ih (o + 1) (w.setCell ⟨b, o, none⟩ v)
    refine ⟨h.os, h.tape, h.output, by have := h.size; rw [show (w.setCell ⟨b, o, none⟩ v).heap.size = w.heap.size by simp [World.setCell]] at this; exact this, fun k hk hne => ?_⟩
    have h1 := h.block k (by simpa [World.setCell] using hk) hne
    exact h1.trans (Below.heap_setCell w _ _ k (fun e => hne (by rw [e])))
theorem take_of (cur : Array Value) (xs : List Value) (h : xs.length ≤ cur.size) (hj : ∀ j, j < xs.length → cur[j]? = xs[j]?) : cur.toList.take xs.length = xs := by
  apply List.ext_getElem?
  intro j
  rw [List.getElem?_take]
  by_cases a : j < xs.length
  · rw [if_pos a, ← hj j a]; simp
  · rw [if_neg a, List.getElem?_eq_none (by omega)]
/-- A list with one more at a place. -/
def insL (l : List Nat) (i x : Nat) : List Nat := l.take i ++ x :: l.drop i
theorem insL_len (l : List Nat) (i x : Nat) (h : i ≤ l.length) : (insL l i x).length = l.length + 1 := by unfold insL; simp; omega
theorem insL_at (l : List Nat) (i x j : Nat) (h : i ≤ l.length) : (insL l i x)[j]? = if j < i then l[j]? else if j = i then some x else l[j - 1]? := by
  unfold insL
  by_cases a : j < i
  · rw [if_pos a, List.getElem?_append_left (by simp; omega), List.getElem?_take, if_pos a]
  · rw [if_neg a, List.getElem?_append_right (by simp; omega)]
    have hl : (l.take i).length = i := by simp; omega
    rw [hl]
    by_cases c : j = i
    · subst c; rw [if_pos rfl, Nat.sub_self]; rfl
    · rw [if_neg c]
      obtain ⟨k, rfl⟩ : ∃ k, j = i + 1 + k := ⟨j - i - 1, by omega⟩
      rw [show i + 1 + k - i = k + 1 by omega, List.getElem?_cons_succ, List.getElem?_drop]
      congr 1
      omega
def OwnN (w : World) (base : Nat) (v : Value) (l : List Nat) : Prop := w.ownsRow base 3 1 v l.length (l.map intV)
theorem intV_one (l : List Nat) : ∀ v ∈ l.map intV, v.oneCell' = true := by
  intro v hv
  obtain ⟨n, _, rfl⟩ := List.mem_map.1 hv
  rfl
theorem own_of {w : World} {base g cap : Nat} {cur : Array Value} {l : List Nat} (hb : base ≤ g) (hh : w.heap[g]? = some (.cells cur 3 (0, 0))) (h1 : l.length ≤ cap) (h2 : cap ≤ maxLen) (h3 : cur.size = cap) (hj : ∀ j, j < l.length → cur[j]? = (l.map intV)[j]?) :
    OwnN w base (.slice (some ⟨g, 0, none⟩) l.length cap) l :=
  ⟨by simp, .inr ⟨g, cap, cur, rfl, hb, hh, h1, h2, by omega, by
    have := take_of cur (l.map intV) (by simp; omega) (by simpa using hj)
    rw [List.length_map] at this
    simpa using this⟩⟩
theorem new_own {w : World} {base G : Nat} {l : List Nat} {xs : List Value} (hbase : base ≤ w.heap.size) (hx : xs = l.map intV) (h1 : l.length ≤ G) (h2 : G ≤ maxLen) :
    OwnN (w.drew.alloc (.cells (xs.toArray ++ Builtin.zeroCells (Value.int .i64 0).cells (G - l.length)) 3)) base (.slice (some ⟨w.heap.size, 0, none⟩) l.length G) l := by
  subst hx
  have hz : (Builtin.zeroCells (Value.int .i64 0).cells (G - l.length)).size = G - l.length := by
    rw [size_zeroCells]; show (G - l.length) * 1 = _; omega
  refine own_of hbase (heap_alloc_new w.drew _) h1 h2 (by rw [Array.size_append, hz]; simp; omega) fun j hj => ?_
  rw [Array.getElem?_append_left (by simpa using hj)]
  simp
/-- What a call that puts a number into a row leaves. -/
def InsPost (base : Nat) (v : Value) (l : List Nat) (i x : Nat) (w : World) (e : Ending) (w' : World) : Prop := ∃ v', e = .returned v' ∧ OwnN w' base v' (insL l i x) ∧ w.grownBy w' v.ownBlock
end Go.Proofs.YtibhohpamnpkcaaGreatDoor

/- Reading letters and digits as characters, in plain words. -/
namespace Go.Proofs.YtibhohpamnpkcaaGreatDoor
open Go.RowKit

def valNp (c : UInt8) : Option Nat :=
  if 65 ≤ c.toNat ∧ c.toNat ≤ 90 then some (c.toNat - 65) else if 97 ≤ c.toNat ∧ c.toNat ≤ 122 then some (c.toNat - 97) else if 48 ≤ c.toNat ∧ c.toNat ≤ 57 then some (c.toNat - 48 + 26) else none
theorem valN_lt {c : UInt8} {d : Nat} (h : valNp c = some d) : d < 36 := by
  unfold valNp at h
  split at h
  · cases h; omega
  · split at h
    · cases h; omega
    · split at h
      · cases h; omega
      · cases h
/-- A number that is read from a place on. -/
def rdF (s : ByteArray) (b : Nat) : Nat → Nat → Nat → Nat → Nat → Except (Nat × Nat) (Nat × Nat)
  | 0, a, _, _, _ => .error (10, a)
  | f + 1, a, n, w, k =>
    if s.size ≤ a then .error (10, a) else
    match valNp (byteAt s a) with
    | none => .error (11, a)
    | some d =>
      if 2147483647 < n + d * w then .error (16, a) else
      if d < thrN k b then .ok (n + d * w, a + 1) else
      if 2147483647 < w * (36 - thrN k b) then .error (16, a) else rdF s b f (a + 1) (n + d * w) (w * (36 - thrN k b)) (k + 36)
section
variable {s : ByteArray} {b f a n w k d : Nat}
theorem rd_end (h : s.size ≤ a) : rdF s b f a n w k = .error (10, a) := by
  cases f with
  | zero => rfl
  | succ f => rw [rdF, if_pos h]
theorem rd_form (h : a < s.size) (h2 : valNp (byteAt s a) = none) : rdF s b (f + 1) a n w k = .error (11, a) := by
  rw [rdF, if_neg (by omega), h2]
theorem rd_far (h : a < s.size) (h2 : valNp (byteAt s a) = some d) (h3 : 2147483647 < n + d * w) : rdF s b (f + 1) a n w k = .error (16, a) := by
  rw [rdF, if_neg (by omega), h2]; dsimp only; rw [if_pos h3]
theorem rd_ok (h : a < s.size) (h2 : valNp (byteAt s a) = some d) (h3 : ¬ 2147483647 < n + d * w) (h4 : d < thrN k b) : rdF s b (f + 1) a n w k = .ok (n + d * w, a + 1) := by
  rw [rdF, if_neg (by omega), h2]; dsimp only; rw [if_neg h3, if_pos h4]
theorem rd_wide (h : a < s.size) (h2 : valNp (byteAt s a) = some d) (h3 : ¬ 2147483647 < n + d * w) (h4 : ¬ d < thrN k b) (h5 : 2147483647 < w * (36 - thrN k b)) : rdF s b (f + 1) a n w k = .error (16, a) := by
  rw [rdF, if_neg (by omega), h2]; dsimp only; rw [if_neg h3, if_neg h4, if_pos h5]
theorem rd_next (h : a < s.size) (h2 : valNp (byteAt s a) = some d) (h3 : ¬ 2147483647 < n + d * w) (h4 : ¬ d < thrN k b) (h5 : ¬ 2147483647 < w * (36 - thrN k b)) : rdF s b (f + 1) a n w k = rdF s b f (a + 1) (n + d * w) (w * (36 - thrN k b)) (k + 36) := by
  rw [rdF, if_neg (by omega), h2]; dsimp only; rw [if_neg h3, if_neg h4, if_neg h5]
end
def rdN (s : ByteArray) (a b : Nat) : Except (Nat × Nat) (Nat × Nat) := rdF s b (s.size - a) a 0 1 36
theorem rdF_bounds (s : ByteArray) (b : Nat) : ∀ (f a n w k i t : Nat), rdF s b f a n w k = .ok (i, t) → a < t ∧ t ≤ s.size ∧ i ≤ 2147483647 := by
  intro f
  induction f with
  | zero => intro a n w k i t h; cases h
  | succ f ih =>
    intro a n w k i t h
    by_cases h1 : s.size ≤ a
    · rw [rd_end h1] at h; cases h
    cases h2 : valNp (byteAt s a) with
    | none => rw [rd_form (by omega) h2] at h; cases h
    | some d =>
      by_cases h3 : 2147483647 < n + d * w
      · rw [rd_far (by omega) h2 h3] at h; cases h
      by_cases h4 : d < thrN k b
      · rw [rd_ok (by omega) h2 h3 h4] at h; cases h; omega
      by_cases h5 : 2147483647 < w * (36 - thrN k b)
      · rw [rd_wide (by omega) h2 h3 h4 h5] at h; cases h
      rw [rd_next (by omega) h2 h3 h4 h5] at h
      have := ih _ _ _ _ _ _ h
      omega
theorem rdF_kind (s : ByteArray) (b : Nat) : ∀ (f a n w k e j : Nat), rdF s b f a n w k = .error (e, j) → e ≠ 0 := by
  intro f
  induction f with
  | zero => intro a n w k e j h; cases h; decide
  | succ f ih =>
    intro a n w k e j h
    by_cases h1 : s.size ≤ a
    · rw [rd_end h1] at h; cases h; decide
    cases h2 : valNp (byteAt s a) with
    | none => rw [rd_form (by omega) h2] at h; cases h; decide
    | some d =>
      by_cases h3 : 2147483647 < n + d * w
      · rw [rd_far (by omega) h2 h3] at h; cases h; decide
      by_cases h4 : d < thrN k b
      · rw [rd_ok (by omega) h2 h3 h4] at h; cases h
      by_cases h5 : 2147483647 < w * (36 - thrN k b)
      · rw [rd_wide (by omega) h2 h3 h4 h5] at h; cases h; decide
      rw [rd_next (by omega) h2 h3 h4 h5] at h
      exact ih _ _ _ _ _ _ h

structure DSt where
  a : Nat
  n : Nat
  place : Nat
  bias : Nat
  first : Bool
  out : List Nat
def decF (s : ByteArray) : Nat → DSt → Except (Nat × Nat) (List Nat)
  | 0, u => .ok u.out
  | f + 1, u =>
    if s.size ≤ u.a then .ok u.out else
    match rdN s u.a u.bias with
    | .error e => .error e
    | .ok (i, t) =>
      let p := u.place + i
      let h := u.out.length + 1
      let n := u.n + p / h
      if rightB (n : Int) = false then .error (16, t - 1) else if 256 < h then .error (15, t - 1) else
      decF s f ⟨t, n, p % h + 1, adaptN i h u.first, false, insL u.out (p % h) n⟩
section
variable {s : ByteArray} {f i t : Nat} {u : DSt}
theorem dec_end (h : s.size ≤ u.a) : decF s f u = .ok u.out := by
  cases f with
  | zero => rfl
  | succ f => rw [decF, if_pos h]
theorem dec_err {e : Nat × Nat} (h : u.a < s.size) (h2 : rdN s u.a u.bias = .error e) : decF s (f + 1) u = .error e := by
  rw [decF, if_neg (by omega), h2]
theorem dec_bad (h : u.a < s.size) (h2 : rdN s u.a u.bias = .ok (i, t)) (h3 : rightB ((u.n + (u.place + i) / (u.out.length + 1) : Nat) : Int) = false) : decF s (f + 1) u = .error (16, t - 1) := by
  rw [decF, if_neg (by omega), h2]; dsimp only; rw [if_pos h3]
theorem dec_many (h : u.a < s.size) (h2 : rdN s u.a u.bias = .ok (i, t)) (h3 : rightB ((u.n + (u.place + i) / (u.out.length + 1) : Nat) : Int) = true) (h4 : 256 < u.out.length + 1) : decF s (f + 1) u = .error (15, t - 1) := by
  rw [decF, if_neg (by omega), h2]; dsimp only; rw [if_neg (by rw [h3]; decide), if_pos h4]
theorem dec_next (h : u.a < s.size) (h2 : rdN s u.a u.bias = .ok (i, t)) (h3 : rightB ((u.n + (u.place + i) / (u.out.length + 1) : Nat) : Int) = true) (h4 : ¬ 256 < u.out.length + 1) : decF s (f + 1) u =
    decF s f ⟨t, u.n + (u.place + i) / (u.out.length + 1), (u.place + i) % (u.out.length + 1) + 1, adaptN i (u.out.length + 1) u.first, false, insL u.out ((u.place + i) % (u.out.length + 1)) (u.n + (u.place + i) / (u.out.length + 1))⟩ := by
  rw [decF, if_neg (by omega), h2]; dsimp only; rw [if_neg (by rw [h3]; decide), if_neg h4]
end
/-- The last mark's place; 0: none. -/
def lastK (s : ByteArray) : Nat → Nat
  | 0 => 0
  | k + 1 => if byteAt s k = 45 then k else lastK s k
theorem lastK_lt (s : ByteArray) : ∀ k, lastK s k ≤ k := by
  intro k
  induction k with
  | zero => exact Nat.le_refl _
  | succ k ih => unfold lastK; split <;> omega
/-- The first byte from 128 on, among so many from a place on. -/
def highF (s : ByteArray) : Nat → Nat → Option Nat
  | 0, _ => none
  | r + 1, k => if 128 ≤ (byteAt s k).toNat then some k else highF s r (k + 1)
theorem high_hit {s : ByteArray} {r k : Nat} (h : 128 ≤ (byteAt s k).toNat) : highF s (r + 1) k = some k := by rw [highF, if_pos h]
theorem high_next {s : ByteArray} {r k : Nat} (h : ¬ 128 ≤ (byteAt s k).toNat) : highF s (r + 1) k = highF s r (k + 1) := by rw [highF, if_neg h]
def headN (s : ByteArray) (l : Nat) : List Nat := (List.range l).map fun j => (byteAt s j).toNat
theorem headN_succ (s : ByteArray) (l : Nat) : headN s (l + 1) = headN s l ++ [(byteAt s l).toNat] := by unfold headN; rw [List.range_succ, List.map_append]; rfl
theorem headN_len (s : ByteArray) (l : Nat) : (headN s l).length = l := by unfold headN; simp
/-- What comes behind the marked head. -/
def decD (s : ByteArray) (l : Nat) : Except (Nat × Nat) (List Nat) :=
  if 256 < l then .error (15, if 0 < l then l + 1 else 0) else decF s s.size ⟨if 0 < l then l + 1 else 0, 128, 0, 72, true, headN s l⟩
def decE (s : ByteArray) : Except (Nat × Nat) (List Nat) :=
  if 1024 < s.size then .error (14, 1024) else
  match highF s (lastK s s.size) 0 with
  | some j => .error (11, j)
  | none => decD s (lastK s s.size)
end Go.Proofs.YtibhohpamnpkcaaGreatDoor

/- puny.Adapt, threshold, digit. -/
namespace Go.Proofs.YtibhohpamnpkcaaGreatDoor
open Go.RowKit

theorem adaptZ_neg {delta count : Int} {first : Bool} (h : delta < 0 ∨ count < 1) : adaptZ delta count first = 0 := by unfold adaptZ; rw [if_pos h]
theorem adaptZ_nat (d c : Nat) (first : Bool) (h : 1 ≤ c) : adaptZ (d : Int) (c : Int) first = (adaptN d c first : Int) := by
  unfold adaptZ; rw [if_neg (by omega)]; simp
theorem wrap64_inA (x : Int) (h1 : -9223372036854775808 ≤ x) (h2 : x ≤ 9223372036854775807) : wrap64 x = x := by unfold wrap64; omega
/-- What the loop begins with, as the walk reckons it. -/
theorem adapt0_int (d c : Nat) (first : Bool) (h : d ≤ 1099511627776) : (if first then wrap64 ((d : Int) / 700 + (d : Int) / 700 / (c : Int)) else wrap64 ((d : Int) / 2 + (d : Int) / 2 / (c : Int))) = ((adapt0 d c first : Nat) : Int) := by
  have h1 : ∀ x : Nat, x / c ≤ x := fun x => Nat.div_le_self _ _
  have e : ∀ x : Nat, ((x / c : Nat) : Int) = (x : Int) / (c : Int) := fun x => by simp
  cases first
  · have := h1 (d / 2)
    have e2 := e (d / 2)
    have e3 : ((d / 2 : Nat) : Int) = (d : Int) / 2 := by simp
    rw [e3] at e2
    simp only [adapt0, Bool.false_eq_true, if_false]
    have e4 : (0 : Int) ≤ (d : Int) / 2 / (c : Int) := by rw [← e2]; exact Int.natCast_nonneg _
    have e5 : (d : Int) / 2 / (c : Int) ≤ (d : Int) / 2 := by rw [← e2, ← e3]; exact Int.ofNat_le.2 (h1 _)
    generalize (d : Int) / 2 / (c : Int) = z at *
    rw [wrap64_inA _ (by omega) (by omega)]
    rw [Int.natCast_add, e2, e3]
  · have := h1 (d / 700)
    have e2 := e (d / 700)
    have e3 : ((d / 700 : Nat) : Int) = (d : Int) / 700 := by simp
    rw [e3] at e2
    simp only [adapt0, if_true]
    have e4 : (0 : Int) ≤ (d : Int) / 700 / (c : Int) := by rw [← e2]; exact Int.natCast_nonneg _
    have e5 : (d : Int) / 700 / (c : Int) ≤ (d : Int) / 700 := by rw [← e2, ← e3]; exact Int.ofNat_le.2 (h1 _)
    generalize (d : Int) / 700 / (c : Int) = z at *
    rw [wrap64_inA _ (by omega) (by omega)]
    rw [Int.natCast_add, e2, e3]
end Go.Proofs.YtibhohpamnpkcaaGreatDoor

/- strings.Builder beside a row of the call's own that is kept: WriteByte, Len, String. -/
namespace Go.Proofs.YtibhohpamnpkcaaGreatDoor
open Go.RowKit

/-- A builder in block b, whose bytes lie in a row of the call's own, from B on, that isn't block G. -/
def BldG (w : World) (B b G : Nat) (l : List UInt8) : Prop :=
  b < B ∧ G ≠ b ∧ G < w.heap.size ∧ ∃ p v, (p = .pointer none ∨ p = .pointer (some ⟨b, 0, none⟩)) ∧ w.heap[b]? = some (.cells #[p, v] 280 (0, 0)) ∧ w.ownsRow B 5 1 v l.length (Lib.byteCells l) ∧ v.ownBlock ≠ some G
def ButG (B b G : Nat) (w w' : World) : Prop := ButB B b w w' ∧ w'.heap[G]? = w.heap[G]?
theorem ButG.refl (B b G : Nat) (w : World) : ButG B b G w w := ⟨ButB.refl _ _ _, rfl⟩
theorem ButG.trans {B b G : Nat} {w w1 w2 : World} (h : ButG B b G w w1) (k : ButG B b G w1 w2) : ButG B b G w w2 := ⟨h.1.trans k.1, k.2.trans h.2⟩
theorem Bld.guard {w w' : World} {B b G : Nat} {l : List UInt8} (h : Bld w B b l) (hb : Below w.heap.size w w') (h1 : w.heap.size ≤ G) (h2 : G < w'.heap.size) : BldG w' B b G l := by
  have hlt := h.lt
  obtain ⟨h0, p, v, hp, h3, h4⟩ := h
  refine ⟨h0, by omega, h2, p, v, hp, (hb.block b hlt).trans h3, ownsRow_below h4 hb, fun e => ?_⟩
  have := (h4.lt G e).2
  omega
theorem BldG.bld {w : World} {B b G : Nat} {l : List UInt8} (h : BldG w B b G l) : Bld w B b l := by
  obtain ⟨h0, _, _, p, v, hp, h3, h4, _⟩ := h
  exact ⟨h0, p, v, hp, h3, h4⟩
theorem BldG.grown {w w' : World} {B b G : Nat} {l : List UInt8} (h : BldG w B b G l) (hg : w.grownBy w' (some G)) : BldG w' B b G l := by
  obtain ⟨h0, h1, h2, p, v, hp, h3, h4, h5⟩ := h
  exact ⟨h0, h1, Nat.lt_of_lt_of_le h2 hg.size, p, v, hp, (hg.block b (lt_of_block h3) (fun e => h1 (by injection e with e; exact e.symm))).trans h3, h4.kept hg (.inr h5), h5⟩
theorem BldG.below {w w' : World} {B b G : Nat} {l : List UInt8} (h : BldG w B b G l) (hb : Below w.heap.size w w') : BldG w' B b G l := h.grown (below_grownBy hb _)
set_option maxHeartbeats 1000000 in
theorem bldG_check (B b G : Nat) (l : List UInt8) (w : World) (h : BldG w B b G l) :
    Calls Tryz.prog 196 #[.pointer (some ⟨b, 0, none⟩)] w fun e w' => e = .returned (.tuple #[]) ∧ ButG B b G w w' ∧ ∃ v, w'.heap[b]? = some (.cells #[.pointer (some ⟨b, 0, none⟩), v] 280 (0, 0)) ∧ w'.ownsRow B 5 1 v l.length (Lib.byteCells l) ∧ v.ownBlock ≠ some G := by
  obtain ⟨h1, hG, _, p, v, h2, h3, h4, h5⟩ := h
  have c0 : w.cell? ⟨b, 0, none⟩ = some p := by rw [cell_of_row w b 0 _ _ _ h3]; rfl
  rcases h2 with rfl | rfl
  · refine (bld_check_fresh b w c0 (by simp [World.shape?, h3]) (Lib.frozen_of_heap h3 0)).mono ?_
    rintro e w' ⟨rfl, rfl⟩
    refine ⟨rfl, ⟨(ButB.refl B b w).setCell 0 _, Below.heap_setCell _ _ _ _ hG⟩, v, by simp [World.setCell, Array.getElem?_modify, h3], ?_, h5⟩
    refine h4.kept (row := some b) ⟨rfl, rfl, rfl, by simp [World.setCell], fun k _ hk => Below.heap_setCell _ _ _ _ (fun e => hk (by simp [e]))⟩ (.inr fun e => ?_)
    have := (h4.lt b e).1
    omega
  · refine (bld_check_used b w c0).mono ?_
    rintro e w' ⟨rfl, rfl⟩
    exact ⟨rfl, ButG.refl _ _ _ _, v, h3, h4, h5⟩
theorem bldG_put {w : World} {B b G : Nat} {p v : Value} {n : Nat} {xs : List Value} {l : List UInt8} (hb : b < B) (hG : G ≠ b) (hGw : G < w.heap.size) (hp : p = .pointer (some ⟨b, 0, none⟩)) {u : Value} (h3 : w.heap[b]? = some (.cells #[p, u] 280 (0, 0))) (h4 : w.ownsRow B 5 1 v n xs) (hn : n = l.length) (hx : xs = Lib.byteCells l) (h5 : v.ownBlock ≠ some G) :
    BldG (w.setCell ⟨b, 1, none⟩ v) B b G l := by
  obtain ⟨_, p', v', hp', k3, k4⟩ := bld_put hb hp h3 h4 hn hx
  have e : (w.setCell ⟨b, 1, none⟩ v).heap[b]? = some (.cells #[p, v] 280 (0, 0)) := by simp [World.setCell, Array.getElem?_modify, h3]
  rw [e] at k3
  injection k3 with k3
  injection k3 with k3
  injection k3 with k3
  injection k3 with e1 k3
  injection k3 with e2 _
  subst e1 e2
  exact ⟨hb, hG, by simpa [World.setCell] using hGw, p, v, hp', e, k4, h5⟩
set_option maxHeartbeats 2000000 in
set_option maxRecDepth 100000 in
theorem bldG_WriteByte (B b G : Nat) (l : List UInt8) (c : UInt8) (w : World) (h : BldG w B b G l) (hlen : l.length ≤ 1073741824) (hBw : B ≤ w.heap.size) :
    Calls Tryz.prog 170 #[.pointer (some ⟨b, 0, none⟩), .int .u8 (c.toNat : Int)] w fun e w' => e = .returned .nilIface ∧ BldG w' B b G (l ++ [c]) ∧ ButG B b G w w' := by
  obtain ⟨i0, hi, hz0, hz1, hz2⟩ := info_parts bld_byte
  have hbB := h.1
  have hG := h.2.1
  have hGw := h.2.2.1
  go_enter Tryz.func170, Tryz.ntmps170
  go_wp2_with fail
  refine (bldG_check B b G l _ h).mono ?_
  rintro e w1 ⟨rfl, hb1, v, hbk, hown, hvG⟩
  have c0 : w1.cell? ⟨b, 0, none⟩ = some (.pointer (some ⟨b, 0, none⟩)) := by rw [Lib.cell_of_heap hbk]; rfl
  have c1 : w1.cell? ⟨b, 1, none⟩ = some v := by rw [Lib.cell_of_heap hbk]; rfl
  have hsz1 := hb1.1.size
  go_wp2_with (at_builtin; refine wpList_append_own_at _ rfl _ _ 74 rfl B 5 i0 (.int .u8 0) 1 1 Tryz.underlying74 hi hz0 hz1 hz2 rfl (by decide) _ _ _ rfl (hown.alloc _) ⟨w1.heap.size, 0, none⟩ 1 1 [.int .u8 (c.toNat : Int)] rfl rfl ?c1 ?c2 ?c3 ?c4 ?c5 ?_)
  case c1 =>
    intro j u hj
    match j, hj with
    | 0, hj => simp at hj; subst hj; simp [Addr.add]
  case c2 => intro u hu; simp at hu; subst hu; rfl
  case c3 => unfold maxLen; omega
  case c4 => omega
  case c5 => simp; omega
  intro v' w2 hown' hgrow _ hat
  have hlt : b < w1.heap.size := lt_of_block hbk
  have hne : v.ownBlock ≠ some b := fun e => by have := (hown.lt b e).1; omega
  have hv' : v'.ownBlock ≠ some G := fun e => by
    rcases hat with hat | hat
    · exact hvG (hat ▸ e)
    · rw [hat] at e; injection e with e; first | omega | (simp at e; omega)
  have hG2 : w2.heap[G]? = w1.heap[G]? := by
    rw [hgrow.block G (by simp; omega) (fun e => hvG e.symm), Lib.alloc_old w1 _ G (by omega)]
  have hb2 : w2.heap[b]? = some (.cells #[.pointer (some ⟨b, 0, none⟩), v] 280 (0, 0)) := by
    rw [hgrow.block b (by simp; omega) (fun e => hne e.symm), Lib.alloc_old w1 _ b hlt]
    exact hbk
  have hs2 := hgrow.size
  have d0 : w2.cell? ⟨b, 0, none⟩ = some (.pointer (some ⟨b, 0, none⟩)) := by rw [Lib.cell_of_heap hb2]; rfl
  have d1 : w2.cell? ⟨b, 1, none⟩ = some v := by rw [Lib.cell_of_heap hb2]; rfl
  have f1 : w2.frozen? ⟨b, 1, none⟩ = false := Lib.frozen_of_heap hb2 1
  obtain ⟨g, cap, rfl⟩ : ∃ g cap, v' = .slice (some ⟨g, 0, none⟩) (l.length + 1) cap := by
    rcases hown'.2 with ⟨_, h0⟩ | ⟨g, cap, cur, hv, _⟩
    · omega
    · exact ⟨g, cap, hv⟩
  have hb12 : Below B w1 w2 := ((Below.refl B w1).alloc (by omega) _).grown hgrow (by simp; omega) (fun k hk => (hown.lt k hk).1)
  have hbe := ((hb1.1.trans (ButB.of_below hb12)).setCell 1 (.slice (some ⟨g, 0, none⟩) (l.length + 1) cap))
  have hgE : (w2.setCell ⟨b, 1, none⟩ (.slice (some ⟨g, 0, none⟩) (l.length + 1) cap)).heap[G]? = w.heap[G]? := (Below.heap_setCell _ _ _ _ hG).trans (hG2.trans hb1.2)
  have hput := bldG_put (l := l ++ [c]) hbB hG (by simp at hs2; omega) rfl hb2 hown' (by simp) (by unfold Lib.byteCells; simp) hv'
  clear hb12 hown' hown hgrow hb1 hG2 hv' hvG hs2 hat
  go_wp2
  go_ret
  exact ⟨rfl, hput, hbe, hgE⟩
end Go.Proofs.YtibhohpamnpkcaaGreatDoor

/- utf.Half. -/
namespace Go.Proofs.YtibhohpamnpkcaaGreatDoor
open Go.RowKit

end Go.Proofs.YtibhohpamnpkcaaGreatDoor

/- Rows of numbers that came in: rows of bytes, rows of ints. -/
namespace Go.Proofs.YtibhohpamnpkcaaGreatDoor
open Go.RowKit

/-- A slice of numbers that came in: nil, or a row of so many cells, each fitting its kind. -/
def IsRow (k : IntKind) (w : World) (a : Option Addr) (len cap : Nat) (zs : List Int) : Prop :=
  (a = none ∧ len = 0 ∧ cap = 0 ∧ zs = []) ∨
  ∃ x, a = some x ∧ len ≤ cap ∧ cap ≤ maxLen ∧ zs.length = cap ∧ (∀ i, i < zs.length → w.cell? (x.add i) = some (.int k (zs.getD i 0))) ∧ ∀ n ∈ zs, (Lit.int k n).wf = true

theorem spot_none {w : World} {x : Addr} {v : Value} (h : w.cell? (x.add 0) = some v) : x = ⟨x.block, x.off, none⟩ ∧ x.block < w.heap.size := by
  have hb := World.block_lt_of_cell? w _ h
  cases x with
  | mk b o s =>
    cases s with
    | none => exact ⟨rfl, hb⟩
    | some q =>
      simp only [World.cell?, Addr.add] at h
      split at h <;> simp at h

theorem IsRow.bytes {w : World} {a : Option Addr} {len cap : Nat} {zs : List Int} (h : IsRow .u8 w a len cap zs) : ∃ s : ByteArray, s.size = len ∧ BytesSl w (.slice a len cap) s := by
  rcases h with ⟨rfl, rfl, rfl, rfl⟩ | ⟨x, rfl, hl, hm, hz, hcell, hwz⟩
  · exact ⟨ByteArray.empty, rfl, .inl ⟨rfl, none, 0, rfl⟩⟩
  · have hsz : (⟨((zs.take len).map fun n => UInt8.ofNat n.toNat).toArray⟩ : ByteArray).size = len := by
      show (((zs.take len).map fun n => UInt8.ofNat n.toNat).toArray).size = _
      simp; omega
    refine ⟨⟨((zs.take len).map fun n => UInt8.ofNat n.toNat).toArray⟩, hsz, ?_⟩
    by_cases h0 : len = 0
    · exact .inl ⟨hsz.trans h0, some x, cap, by rw [h0]⟩
    · obtain ⟨hx, hb⟩ := spot_none (hcell 0 (by omega))
      refine .inr ⟨x.block, x.off, cap, by rw [hsz, ← hx], by rw [hsz]; exact hl, hm, hb, fun j hj => ?_⟩
      rw [hsz] at hj
      have hc := hcell j (by omega)
      have hadd : x.add j = ⟨x.block, x.off + j, none⟩ := by cases x; cases hx; simp [Addr.add]
      rw [hadd] at hc
      rw [hc]
      have hjz : j < zs.length := by omega
      have hw := hwz zs[j] (List.getElem_mem _)
      simp [Lit.wf, IntKind.min, IntKind.max, IntKind.signed, IntKind.bits] at hw
      simp only [byteAt, List.getD, List.getElem?_map, List.getElem?_take, if_pos hj, List.getElem?_eq_getElem hjz, Option.map_some, Option.getD_some]
      rw [UInt8.toNat_ofNat_of_lt' (by have : zs[j].toNat < 256 := by omega
                                       exact this), Int.toNat_of_nonneg hw.1]

/-- A slice of ints that reads as these numbers. -/
def IntsSl (w : World) (v : Value) (l : List Int) : Prop :=
  (l = [] ∧ ∃ a cap, v = .slice a 0 cap) ∨ ∃ b off cap, v = .slice (some ⟨b, off, none⟩) l.length cap ∧ l.length ≤ cap ∧ cap ≤ maxLen ∧ b < w.heap.size ∧ ∀ j, j < l.length → w.cell? ⟨b, off + j, none⟩ = some (.int .i64 (l.getD j 0))
theorem IntsSl.below {w w' : World} {v : Value} {l : List Int} (h : IntsSl w v l) (hb : Below w.heap.size w w') : IntsSl w' v l := by
  rcases h with h | ⟨b, off, cap, e, h1, h2, h3, h4⟩
  · exact .inl h
  · exact .inr ⟨b, off, cap, e, h1, h2, Nat.lt_of_lt_of_le h3 hb.size, fun j hj => (hb.cell (p := ⟨b, off + j, none⟩) h3).trans (h4 j hj)⟩
theorem IsRow.ints {w : World} {a : Option Addr} {len cap : Nat} {zs : List Int} (h : IsRow .i64 w a len cap zs) : ∃ l : List Int, l.length = len ∧ IntsSl w (.slice a len cap) l ∧ ∀ n ∈ l, (Lit.int .i64 n).wf = true := by
  rcases h with ⟨rfl, rfl, rfl, rfl⟩ | ⟨x, rfl, hl, hm, hz, hcell, hwz⟩
  · exact ⟨[], rfl, .inl ⟨rfl, none, 0, rfl⟩, fun _ h => by cases h⟩
  · have hlen : (zs.take len).length = len := by simp; omega
    refine ⟨zs.take len, hlen, ?_, fun n hn => hwz n (List.mem_of_mem_take hn)⟩
    by_cases h0 : len = 0
    · exact .inl ⟨by rw [h0]; rfl, some x, cap, by rw [h0]⟩
    · obtain ⟨hx, hb⟩ := spot_none (hcell 0 (by omega))
      refine .inr ⟨x.block, x.off, cap, by rw [hlen, ← hx], by rw [hlen]; exact hl, hm, hb, fun j hj => ?_⟩
      rw [hlen] at hj
      have hc := hcell j (by omega)
      have hadd : x.add j = ⟨x.block, x.off + j, none⟩ := by cases x; cases hx; simp [Addr.add]
      rw [hadd] at hc
      rw [hc]
      simp [List.getD, hj]
end Go.Proofs.YtibhohpamnpkcaaGreatDoor

/- utf.right, utf.Put, utf.Text. -/
namespace Go.Proofs.YtibhohpamnpkcaaGreatDoor
open Go.RowKit

theorem right_nat {n : Int} (h : rightB n = true) : ∃ c : Nat, n = c ∧ rightC c ∧ c ≤ 1114111 := by
  have hz := (rightB_iff n).1 h
  unfold rightZ at hz
  obtain ⟨c, rfl⟩ := Int.eq_ofNat_of_zero_le hz.1
  exact ⟨c, rfl, (rightC_iff c).2 h, by omega⟩

def UPutPost (n : Int) (w : World) (e : Ending) (w' : World) : Prop :=
  Below w.heap.size w w' ∧ ((rightB n = true ∧ ∃ v, e = .returned (.tuple #[v, .nilIface]) ∧ OwnB w' w.heap.size v (putL n.toNat)) ∨
    (rightB n = false ∧ ∃ v, e = .returned (.tuple #[.slice none 0 0, v]) ∧ IsFault w' v 16 0))

def TextPost (l : List Int) (w : World) (e : Ending) (w' : World) : Prop :=
  Below w.heap.size w w' ∧ ((rightLen l = l.length ∧ ∃ v, e = .returned (.tuple #[v, .nilIface]) ∧ OwnB w' w.heap.size v (putAll (nats l))) ∨
    (rightLen l < l.length ∧ ∃ v, e = .returned (.tuple #[.slice none 0 0, v]) ∧ IsFault w' v 16 (rightLen l : Int)))

end Go.Proofs.YtibhohpamnpkcaaGreatDoor

/- puny.threshold, digit, right, number. -/
namespace Go.Proofs.YtibhohpamnpkcaaGreatDoor
open Go.RowKit

theorem thr_int (k b : Nat) : min (max ((k : Int) - (b : Int)) 1) 26 = ((thrN k b : Nat) : Int) := by unfold thrN; omega
theorem dig_int (n : Nat) (h : n < 36) : ((digN n).toNat : Int) = if (n : Int) < 26 then 97 + (n : Int) else 22 + (n : Int) := by
  unfold digN
  by_cases h1 : n < 26
  · rw [if_pos h1, if_pos (by omega), UInt8.toNat_ofNat_of_lt' (show 97 + n < 256 by omega)]; simp
  · rw [if_neg h1, if_neg (by omega), UInt8.toNat_ofNat_of_lt' (show 22 + n < 256 by omega)]; simp
theorem sub_div_int {m t : Nat} (h : t ≤ m) (ht : t ≤ 26) : (((m - t) / (36 - t) : Nat) : Int) = ((m : Int) - (t : Int)) / (36 - (t : Int)) ∧ (((m - t) % (36 - t) : Nat) : Int) = ((m : Int) - (t : Int)) % (36 - (t : Int)) := by
  have h1 : ((m - t : Nat) : Int) = (m : Int) - t := by omega
  have h2 : ((36 - t : Nat) : Int) = 36 - (t : Int) := by omega
  constructor
  · rw [Int.natCast_ediv, h1, h2]
  · rw [Int.natCast_emod, h1, h2]
end Go.Proofs.YtibhohpamnpkcaaGreatDoor

/- puny.value, puny.reader.number. -/
namespace Go.Proofs.YtibhohpamnpkcaaGreatDoor
open Go.RowKit

def valO (o : Option Nat) : Value := .tuple #[.int .i64 ((o.getD 0 : Nat) : Int), .bool o.isSome]
theorem grown_setP {w w' : World} {p : Nat} (h : w.grownBy w' (some p)) (j : Nat) (u : Value) : w.grownBy (w'.setCell ⟨p, j, none⟩ u) (some p) :=
  ⟨h.os, h.tape, h.output, by simpa [World.setCell] using h.size, fun k hk hne => (Below.heap_setCell w' _ u k (fun e => hne (by rw [e]))).trans (h.block k hk hne)⟩
theorem grown_transP {w w1 w2 : World} {r : Option Nat} (h : w.grownBy w1 r) (k : w1.grownBy w2 r) : w.grownBy w2 r :=
  ⟨k.os.trans h.os, k.tape.trans h.tape, k.output.trans h.output, Nat.le_trans h.size k.size, fun i hi hne => (k.block i (Nat.lt_of_lt_of_le hi h.size) hne).trans (h.block i hi hne)⟩
theorem grown_drewN {w w1 : World} {r : Option Nat} (h : w.grownBy w1 r) (m : Nat) : w.grownBy (w1.drewN m) r := ⟨h.os, h.tape, h.output, h.size, h.block⟩
theorem grown_self (w : World) (r : Option Nat) : w.grownBy w r := ⟨rfl, rfl, rfl, Nat.le_refl _, fun _ _ _ => rfl⟩
theorem mul_le_max {d w : Nat} (h1 : d < 36) (h2 : w ≤ 2147483647) : d * w ≤ 36 * 2147483647 := Nat.mul_le_mul (by omega) h2
theorem quo_int (n d w : Nat) (hn : n ≤ 2147483647) (hw : 1 ≤ w) : ((d : Int) > (2147483647 - (n : Int)) / (w : Int)) ↔ 2147483647 < n + d * w := by
  have e : (2147483647 - (n : Int)) / (w : Int) = (((2147483647 - n) / w : Nat) : Int) := by
    rw [Int.natCast_ediv]; congr 1; omega
  rw [e]
  have h := Nat.div_lt_iff_lt_mul (x := 2147483647 - n) (y := d) (k := w) (by omega)
  constructor
  · intro h1
    have := h.1 (by omega)
    omega
  · intro h1
    have := h.2 (by omega)
    omega
theorem wide_int (w t : Nat) (h1 : 1 ≤ t) (h2 : t ≤ 26) : ((w : Int) > 2147483647 / (36 - (t : Int))) ↔ 2147483647 < w * (36 - t) := by
  have e : 2147483647 / (36 - (t : Int)) = ((2147483647 / (36 - t) : Nat) : Int) := by
    rw [Int.natCast_ediv]; congr 1; omega
  rw [e]
  have h := Nat.div_lt_iff_lt_mul (x := 2147483647) (y := w) (k := 36 - t) (by omega)
  constructor
  · intro h3; exact h.1 (by omega)
  · intro h3; have := h.2 h3; omega
end Go.Proofs.YtibhohpamnpkcaaGreatDoor

/- puny.reader.number. -/
namespace Go.Proofs.YtibhohpamnpkcaaGreatDoor
open Go.RowKit

end Go.Proofs.YtibhohpamnpkcaaGreatDoor

/- puny.Decode. -/
namespace Go.Proofs.YtibhohpamnpkcaaGreatDoor
open Go.RowKit

theorem byteAt_data {s : ByteArray} {k : Nat} (h : k < s.size) : s.data[k]! = byteAt s k := by
  have : k < s.data.size := h
  rw [getElem!_pos s.data k this]
  simp [byteAt, List.getD]
  rw [Array.getElem?_eq_getElem this]; rfl
theorem lastK_idx (s : ByteArray) : ∀ k, k ≤ s.size → lastK s k = (Lib.lastIdx s 45 k).toNat := by
  intro k
  induction k with
  | zero => intro _; rfl
  | succ k ih =>
    intro hk
    by_cases h : byteAt s k = 45
    · rw [Lib.lastIdx_hit s 45 k (by rw [byteAt_data (by omega), h]; rfl)]
      unfold lastK; rw [if_pos h]; simp
    · rw [Lib.lastIdx_miss s 45 k (by
        rw [byteAt_data (by omega)]
        intro e
        apply h
        apply UInt8.toNat_inj.1
        have : ((byteAt s k).toNat : Int) = ((45 : UInt8).toNat : Int) := e
        omega), ← ih (by omega)]
      rw [lastK, if_neg h]
theorem dec_long {s : ByteArray} {l : Nat} (h : 256 < l) : decD s l = .error (15, if 0 < l then l + 1 else 0) := by unfold decD; rw [if_pos h]
theorem dec_short {s : ByteArray} {l : Nat} (h : ¬ 256 < l) : decD s l = decF s s.size ⟨if 0 < l then l + 1 else 0, 128, 0, 72, true, headN s l⟩ := by unfold decD; rw [if_neg h]
theorem decE_long {s : ByteArray} (h : 1024 < s.size) : decE s = .error (14, 1024) := by unfold decE; rw [if_pos h]
theorem decE_high {s : ByteArray} {j : Nat} (h : ¬ 1024 < s.size) (h2 : highF s (lastK s s.size) 0 = some j) : decE s = .error (11, j) := by unfold decE; rw [if_neg h, h2]
theorem decE_low {s : ByteArray} (h : ¬ 1024 < s.size) (h2 : highF s (lastK s s.size) 0 = none) : decE s = decD s (lastK s s.size) := by unfold decE; rw [if_neg h, h2]
def DecPost (s : ByteArray) (w : World) (e : Ending) (w' : World) : Prop := Below w.heap.size w w' ∧
  ((∃ k j : Nat, ∃ v, decE s = .error (k, j) ∧ k ≠ 0 ∧ e = .returned (.tuple #[.slice none 0 0, v]) ∧ IsFault w' v k j) ∨ ∃ (l : List Nat) (v' : Value), decE s = .ok l ∧ e = .returned (.tuple #[v', .nilIface]) ∧ OwnN w' w.heap.size v' l)
theorem OwnN.base' {w : World} {base base' : Nat} {v : Value} {l : List Nat} (h : OwnN w base v l) (hb : base' ≤ base) : OwnN w base' v l := ownsRow_base h hb
theorem OwnN.below {w w' : World} {base : Nat} {v : Value} {l : List Nat} (h : OwnN w base v l) (hb : Below w.heap.size w w') : OwnN w' base v l := ownsRow_below h hb
theorem OwnN.grown {w w' : World} {base p : Nat} {v : Value} {l : List Nat} (h : OwnN w base v l) (hg : w.grownBy w' (some p)) (hp : p < base) : OwnN w' base v l :=
  World.ownsRow.kept h hg (.inr fun e => by have := (World.ownsRow.lt h p e).1; omega)
theorem OwnN.under {w0 w w' : World} {base : Nat} {v : Value} {l : List Nat} (h : OwnN w base v l) (hb : Below w0.heap.size w0 w) (hB : w0.heap.size ≤ base) (hg : w.grownBy w' v.ownBlock) : Below w0.heap.size w0 w' :=
  hb.grown hg hb.size (fun j hj => Nat.le_trans hB (World.ownsRow.lt h j hj).1)
theorem wpList_app_nat {w : World} {ops : Array Oper} {rest : List Oper} {o : Oper} {a : Act} {Q : Exit → Act → World → Prop} (hgd : o.guard = none) (s x : Operand) (ho : o.op = .call { callee := .builtin .append, args := #[s, x], argTypes := #[166, 166] })
    (base : Nat) (v : Value) (l : List Nat) (hs : a.eval s = v) (hown : OwnN w base v l) (g c : Nat) (p : Nat) (hx : a.eval x = .slice (some ⟨g, 0, none⟩) 1 c) (hb : w.heap[g]? = some (.cells #[intV p] 3 (0, 0)))
    (hl : l.length ≤ 1073741824) (hbase : base ≤ w.heap.size)
    (h : ∀ v' w', OwnN w' base v' (l ++ [p]) → w.grownBy w' v.ownBlock → wpList Tryz.prog ops Q rest (a.put o.dst v') w') : wpList Tryz.prog ops Q (o :: rest) a w := by
  obtain ⟨i, hi, hz, hsize, hby⟩ := info_parts info_int
  refine wpList_append_own _ hgd s x 166 ho base 3 i _ 1 8 Tryz.underlying166 hi hz hsize hby rfl (by decide) v _ _ hs hown _ 1 c [intV p] hx rfl ?_ ?_ (by unfold maxLen; omega) (by omega) hbase ?_
  · intro j u hj
    match j, hj with
    | 0, hj =>
      simp at hj; subst hj
      rw [Addr.add_lit, Nat.zero_add, cell_of_row w g 0 _ _ _ hb]
      rfl
  · intro u hu; simp at hu; subst hu; rfl
  · intro v' w' h1 h2 _
    refine h v' w' ?_ h2
    unfold OwnN
    rw [List.length_append, List.map_append]
    exact h1
end Go.Proofs.YtibhohpamnpkcaaGreatDoor
