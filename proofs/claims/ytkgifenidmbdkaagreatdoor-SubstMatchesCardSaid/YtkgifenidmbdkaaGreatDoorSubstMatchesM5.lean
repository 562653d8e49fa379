/- A list cut at a mark: plain facts, in the forms that strings.Split and the reference's parts have. -/
import Derived.Lib.SplitLaws
import Derived.Lib.IndexBytes
import Derived.Lib.IndexLaws
import Derived.Test.YtkgifenidmbdkaaGreatDoorSubstMatchesM1
import Derived.Test.YtkgifenidmbdkaaGreatDoorSubstMatchesM3
import Derived.Deep.AppendSrc
import Derived.Deep.Upon

namespace Go.Proofs.YtkgifenidmbdkaaGreatDoor

def splitL (c : UInt8) : List UInt8 → List (List UInt8)
  | [] => [[]]
  | x :: l => if x = c then [] :: splitL c l else match splitL c l with | [] => [[x]] | p :: ps => (x :: p) :: ps
theorem splitL_none (c : UInt8) : ∀ (a : List UInt8), (∀ x ∈ a, x ≠ c) → splitL c a = [a]
  | [], _ => rfl
  | x :: a, h => by
    have := splitL_none c a (fun y hy => h y (by simp [hy]))
    rw [splitL, if_neg (h x (by simp)), this]
theorem splitL_cut (c : UInt8) (b : List UInt8) : ∀ (a : List UInt8), (∀ x ∈ a, x ≠ c) → splitL c (a ++ c :: b) = a :: splitL c b
  | [], _ => by simp [splitL]
  | x :: a, h => by
    have := splitL_cut c b a (fun y hy => h y (by simp [hy]))
    rw [List.cons_append, splitL, if_neg (h x (by simp)), this]
theorem splitL_ne (c : UInt8) (l : List UInt8) : splitL c l ≠ [] := by
  cases l with
  | nil => simp [splitL]
  | cons x l =>
    rw [splitL]
    split
    · simp
    · split <;> simp
/-- A list without the mark, or the part ahead of the first one. -/
theorem first_cut (c : UInt8) : ∀ (l : List UInt8), (∀ x ∈ l, x ≠ c) ∨ ∃ a b, l = a ++ c :: b ∧ ∀ x ∈ a, x ≠ c
  | [] => .inl (by simp)
  | x :: l => by
    by_cases hx : x = c
    · exact .inr ⟨[], l, by simp [hx], by simp⟩
    · rcases first_cut c l with h | ⟨a, b, e, h⟩
      · exact .inl (by intro y hy; simp at hy; rcases hy with rfl | hy; exact hx; exact h y hy)
      · exact .inr ⟨x :: a, b, by simp [e], by intro y hy; simp at hy; rcases hy with rfl | hy; exact hx; exact h y hy⟩
theorem splitL_app (c : UInt8) (b : List UInt8) : ∀ (n : Nat) (a : List UInt8), a.length ≤ n → splitL c (a ++ c :: b) = splitL c a ++ splitL c b := by
  intro n
  induction n with
  | zero =>
    intro a h
    have : a = [] := List.eq_nil_of_length_eq_zero (by omega)
    subst this
    simp [splitL]
  | succ n ih =>
    intro a h
    rcases first_cut c a with h1 | ⟨x, y, e, h1⟩
    · rw [splitL_cut c b a h1, splitL_none c a h1]; rfl
    · subst e
      rw [List.append_assoc, List.cons_append, splitL_cut c _ x h1, ih y (by simp at h; omega), splitL_cut c _ x h1]
      rfl
theorem splitL_len (c : UInt8) : ∀ (n : Nat) (l : List UInt8), l.length ≤ n → ((splitL c l).map List.length).sum + (splitL c l).length = l.length + 1 := by
  intro n
  induction n with
  | zero =>
    intro l h
    have : l = [] := List.eq_nil_of_length_eq_zero (by omega)
    subst this
    simp [splitL]
  | succ n ih =>
    intro l h
    rcases first_cut c l with h1 | ⟨x, y, e, h1⟩
    · rw [splitL_none c l h1]; simp
    · subst e
      have := ih y (by simp at h; omega)
      rw [splitL_cut c _ x h1]
      simp only [List.map_cons, List.sum_cons, List.length_cons, List.length_append]
      omega
theorem split_index {c : UInt8} {a b : List UInt8} (h : ∀ x ∈ a, x ≠ c) : Lib.index (a ++ c :: b) [c] = (a.length : Int) := by
  rw [Lib.index_one]
  induction a with
  | nil => simp [Lib.indexByte]
  | cons x a ih =>
    have := ih (fun y hy => h y (by simp [hy]))
    rw [List.cons_append, Lib.indexByte, this]
    have hx := h x (by simp)
    simp [hx]
theorem split_index_none {c : UInt8} {a : List UInt8} (h : ∀ x ∈ a, x ≠ c) : Lib.index a [c] = -1 := by
  rw [Lib.index_one]
  induction a with
  | nil => simp [Lib.indexByte]
  | cons x a ih =>
    have := ih (fun y hy => h y (by simp [hy]))
    rw [Lib.indexByte, this]
    have hx := h x (by simp)
    simp [hx]
theorem splitK_is (c : UInt8) : ∀ (n : Nat) (l : List UInt8), l.length ≤ n → Lib.splitK [c] 0 (Lib.count l [c]) l = splitL c l := by
  intro n
  induction n with
  | zero =>
    intro l h
    have : l = [] := List.eq_nil_of_length_eq_zero (by omega)
    subst this
    rw [Lib.count_one]
    rfl
  | succ n ih =>
    intro l h
    rcases first_cut c l with h1 | ⟨x, y, e, h1⟩
    · have h0 : l.count c = 0 := List.count_eq_zero.2 (fun hm => h1 c hm rfl)
      rw [Lib.count_one, h0, splitL_none c l h1]; rfl
    · have hi := split_index (b := y) h1
      have h0 : x.count c = 0 := List.count_eq_zero.2 (fun hm => h1 c hm rfl)
      subst e
      have hc : Lib.count (x ++ c :: y) [c] = Lib.count y [c] + 1 := by
        rw [Lib.count_one, Lib.count_one, List.count_append, h0, List.count_cons_self]; omega
      have hy := ih y (by simp at h; omega)
      rw [hc, Lib.splitK, hi, splitL_cut c _ x h1, ← hy]
      have : ¬ ((x.length : Int) == -1) = true := by simp
      rw [if_neg this]
      simp
theorem splitB_is (c : UInt8) (s : ByteArray) : (Lib.splitB ⟨#[c]⟩ 0 (Lib.countB s ⟨#[c]⟩) s).map (·.data.toList) = splitL c s.data.toList := by
  rw [Lib.splitB_data]
  exact splitK_is c _ _ (Nat.le_refl _)
end Go.Proofs.YtkgifenidmbdkaaGreatDoor

/- Texts out of lists of bytes. -/
namespace Go.Proofs.YtkgifenidmbdkaaGreatDoor
open Go.RowKit

def ofL (l : List UInt8) : ByteArray := ⟨l.toArray⟩
theorem ofL_app (a b : List UInt8) : ofL a ++ ofL b = ofL (a ++ b) := by
  unfold ofL
  apply ByteArray.ext
  apply Array.ext'
  rw [ByteArray.data_append]
  simp
theorem ofL_list (s : ByteArray) : ofL s.data.toList = s := by unfold ofL; rfl
theorem extract_one {s : ByteArray} {i : Nat} (h : i < s.size) : s.extract i (i + 1) = ofL [byteAt s i] := by
  apply ByteArray.ext
  apply Array.ext'
  rw [Lib.extract_data]
  have hl : s.data.toList.length = s.size := rfl
  have : s.data.toList.drop i = s.data.toList[i]'(by omega) :: s.data.toList.drop (i + 1) := List.drop_eq_getElem_cons (by omega)
  rw [this]
  unfold byteAt ofL
  simp [List.getD]
  rw [Array.getElem?_eq_getElem (show i < s.data.size from h)]
  rfl
theorem byte_string (c : UInt8) (w : World) : (convert 106 9 (.slice (some ⟨w.heap.size, 0, none⟩) 1 1)).run Tryz.prog (w.alloc (.cells #[.int .u8 (c.toNat : Int)] 5)) = .ok (.string ⟨#[c]⟩) (w.alloc (.cells #[.int .u8 (c.toNat : Int)] 5)) := by
  have hB : BytesAt (w.alloc (.cells #[.int .u8 (c.toNat : Int)] 5)) w.heap.size [c] := ⟨5, [], 0, 0, .inl (Nat.le_refl _), heap_alloc_new w _⟩
  exact run_back (P := Tryz.prog) _ 106 9 5 w.heap.size 1 [c] Tryz.underlying106 Tryz.underlying5 Tryz.underlying9 hB
theorem ofL_size (l : List UInt8) : (ofL l).size = l.length := by
  show l.toArray.size = _
  simp
end Go.Proofs.YtkgifenidmbdkaaGreatDoor

/- A list cut at a mark once: plain facts. -/
namespace Go.Proofs.YtkgifenidmbdkaaGreatDoor

/-- A list's part ahead of a mark, the part behind it, and whether it stands there. -/
def cutL (c : UInt8) : List UInt8 → List UInt8 × List UInt8 × Bool
  | [] => ([], [], false)
  | x :: l => if x = c then ([], l, true) else (x :: (cutL c l).1, (cutL c l).2.1, (cutL c l).2.2)
def cutN (c : UInt8) (s : ByteArray) : ByteArray := ofL (cutL c s.data.toList).1
def cutV (c : UInt8) (s : ByteArray) : ByteArray := ofL (cutL c s.data.toList).2.1
def cutH (c : UInt8) (s : ByteArray) : Bool := (cutL c s.data.toList).2.2
theorem cutL_none (c : UInt8) : ∀ (a : List UInt8), (∀ x ∈ a, x ≠ c) → cutL c a = (a, [], false)
  | [], _ => rfl
  | x :: a, h => by rw [cutL, if_neg (h x (by simp)), cutL_none c a (fun y hy => h y (by simp [hy]))]
theorem cutL_cut (c : UInt8) (b : List UInt8) : ∀ (a : List UInt8), (∀ x ∈ a, x ≠ c) → cutL c (a ++ c :: b) = (a, b, true)
  | [], _ => by simp [cutL]
  | x :: a, h => by rw [List.cons_append, cutL, if_neg (h x (by simp)), cutL_cut c b a (fun y hy => h y (by simp [hy]))]
theorem cutL_len (c : UInt8) (l : List UInt8) : (cutL c l).1.length + (cutL c l).2.1.length + (if (cutL c l).2.2 = true then 1 else 0) = l.length := by
  rcases first_cut c l with h | ⟨a, b, e, h⟩
  · rw [cutL_none c l h]; simp
  · subst e; rw [cutL_cut c b a h]; simp; omega
theorem cutN_size (c : UInt8) (s : ByteArray) : (cutN c s).size ≤ s.size := by
  have := cutL_len c s.data.toList
  have hl : s.data.toList.length = s.size := rfl
  unfold cutN; rw [ofL_size]; omega
theorem cutV_size (c : UInt8) (s : ByteArray) : (cutV c s).size ≤ s.size := by
  have := cutL_len c s.data.toList
  have hl : s.data.toList.length = s.size := rfl
  unfold cutV; rw [ofL_size]; omega
theorem ofL_data (l : List UInt8) : (ofL l).data.toList = l := by simp [ofL]
/-- The index of a mark tells where a text is cut. -/
theorem cut_ways (c : UInt8) (s : ByteArray) : (Lib.indexByte s.data.toList c = -1 ∧ cutN c s = s ∧ cutV c s = ⟨#[]⟩ ∧ cutH c s = false ∧ ∀ j, j < s.size → byteAt s j ≠ c) ∨
    ∃ i : Nat, Lib.indexByte s.data.toList c = i ∧ i < s.size ∧ cutN c s = s.extract 0 i ∧ cutV c s = s.extract (i + 1) s.size ∧ cutH c s = true ∧ byteAt s i = c ∧ ∀ j, j < i → byteAt s j ≠ c := by
  have hl : s.data.toList.length = s.size := rfl
  have hget : ∀ j, (h : j < s.size) → byteAt s j = s.data.toList[j] := fun j h => by unfold byteAt; rw [List.getD, List.getElem?_eq_getElem (by omega)]; rfl
  unfold cutN cutV cutH
  rcases first_cut c s.data.toList with h | ⟨a, b, e, h⟩
  · refine .inl ⟨by rw [← Lib.index_one]; exact split_index_none h, ?_, ?_, ?_, fun j hj => ?_⟩
    · rw [cutL_none c _ h]; exact ofL_list s
    · rw [cutL_none c _ h]; rfl
    · rw [cutL_none c _ h]
    · rw [hget j hj]; exact h _ (List.getElem_mem _)
  · have hs : s.size = a.length + 1 + b.length := by rw [← hl, e]; simp; omega
    refine .inr ⟨a.length, by rw [← Lib.index_one, e]; exact split_index h, by omega, ?_, ?_, ?_, ?_, fun j hj => ?_⟩
    · rw [e, cutL_cut c b a h]
      apply ByteArray.ext
      apply Array.ext'
      rw [Lib.extract_data, e]
      simp [ofL]
    · rw [e, cutL_cut c b a h]
      apply ByteArray.ext
      apply Array.ext'
      rw [Lib.extract_data, e, hs]
      simp [ofL]
    · rw [e, cutL_cut c b a h]
    · rw [hget _ (by omega)]; simp [e]
    · rw [hget _ (by omega)]
      have : s.data.toList[j]'(by omega) = a[j] := by simp [e, List.getElem_append_left, hj]
      rw [this]
      exact h _ (List.getElem_mem _)
/-- Where a text is cut, as one who goes from byte to byte finds it. -/
theorem cut_lim (c : UInt8) (s : ByteArray) : ∃ i, i ≤ s.size ∧ (∀ j, j < i → byteAt s j ≠ c) ∧ cutN c s = s.extract 0 i ∧ (cutN c s).size = i ∧ ((i = s.size ∧ cutV c s = ⟨#[]⟩ ∧ cutH c s = false) ∨ (i < s.size ∧ byteAt s i = c ∧ cutV c s = s.extract (i + 1) s.size ∧ cutH c s = true)) := by
  rcases cut_ways c s with ⟨_, e1, e2, e3, h⟩ | ⟨i, _, hi, e1, e2, e3, h0, h⟩
  · refine ⟨s.size, Nat.le_refl _, h, ?_, by rw [e1], .inl ⟨rfl, e2, e3⟩⟩
    rw [e1]
    apply ByteArray.ext
    apply Array.ext'
    rw [Lib.extract_data]
    have hl : s.data.toList.length = s.size := rfl
    rw [List.drop_zero, Nat.sub_zero, ← hl, List.take_length]
  · exact ⟨i, by omega, h, e1, by rw [e1, ByteArray.size_extract]; omega, .inr ⟨hi, h0, e2, e3⟩⟩
theorem u8_neN {b : UInt8} {n : Nat} (hn : n < 256) (h : b ≠ UInt8.ofNat n) : ((b.toNat : Int) != (n : Int)) = true := by
  simp only [bne_iff_ne, ne_eq, Int.ofNat_inj]
  intro e
  apply h
  apply UInt8.toNat_inj.1
  rw [e, UInt8.toNat_ofNat_of_lt' hn]
theorem u8_eqN {b : UInt8} {n : Nat} (hn : n < 256) (h : b = UInt8.ofNat n) : ((b.toNat : Int) != (n : Int)) = false := by
  subst h
  rw [UInt8.toNat_ofNat_of_lt' hn]
  simp
theorem byteAt_ix {s : ByteArray} {i : Nat} (h : i < s.size) : byteAt s i = s[i] := by simp [byteAt, List.getD, h]; rfl
end Go.Proofs.YtkgifenidmbdkaaGreatDoor

/- Of the reference of chapter 02: Has, Same. -/
namespace Go.Proofs.YtkgifenidmbdkaaGreatDoor
open Go.RowKit

/-- Strings stand in the cells of a block, from a place on. -/
def StrRow (w : World) (b off n : Nat) (l : List ByteArray) : Prop := l.length = n ∧ ∀ i, i < n → w.cell? ⟨b, off + i, none⟩ = some (.string (l.getD i ByteArray.empty))
theorem StrRow.below {w w' : World} {b off n B : Nat} {l : List ByteArray} (h : StrRow w b off n l) (hb : Below B w w') (hg : b < B) : StrRow w' b off n l :=
  ⟨h.1, fun i hi => (hb.cell (p := ⟨b, off + i, none⟩) hg).trans (h.2 i hi)⟩
theorem StrRow.drewN {w : World} {b off n : Nat} {l : List ByteArray} (h : StrRow w b off n l) (m : Nat) : StrRow (w.drewN m) b off n l := h
theorem StrRow.of_own {w : World} {base : Nat} {e : TypeId} {g n cap : Nat} {l : List ByteArray} (h : w.ownsRow base e 1 (.slice (some ⟨g, 0, none⟩) n cap) n (l.map strV)) : StrRow w g 0 n l := by
  have hl : l.length = n := by have := h.1; simpa using this
  refine ⟨hl, fun i hi => ?_⟩
  rw [Nat.zero_add, h.cellAt i (by omega)]
  simp [strV, hl, hi]

def hasB (s : ByteArray) (c : UInt8) : Bool := (List.range s.size).any fun i => byteAt s i == c
theorem hasB_yes {s : ByteArray} {c : UInt8} {k : Nat} (hk : k < s.size) (h : byteAt s k = c) : hasB s c = true := by
  unfold hasB; rw [List.any_eq_true]; exact ⟨k, by simpa using hk, by simpa using h⟩
theorem hasB_no {s : ByteArray} {c : UInt8} (h : ∀ j, j < s.size → byteAt s j ≠ c) : hasB s c = false := by
  unfold hasB; rw [List.any_eq_false]; intro j hj; simpa using h j (by simpa using hj)

theorem str_eqB (a b : ByteArray) : (a.toList == b.toList) = decide (a = b) := by
  rw [ByteArray.toList_eq, ByteArray.toList_eq, Bool.eq_iff_iff]
  simp only [beq_iff_eq, decide_eq_true_eq, Array.toList_inj]
  exact ⟨fun h => by cases a; cases b; simp_all, fun h => by rw [h]⟩


set_option maxHeartbeats 800000 in
theorem ref_Has (s : ByteArray) (c : UInt8) (w : World) (hs : s.size ≤ 140737488351232) :
    Calls Tryz.prog 127 #[.string s, .int .u8 (c.toNat : Int)] w fun e w' => e = .returned (.bool (hasB s c)) ∧ w = w' := by
  go_enter Tryz.func127, Tryz.ntmps127
  go_wp2_with fail
  go_loop [5] (fun i => ∃ k : Nat, k ≤ s.size ∧ i = .int .i64 k ∧ ∀ j, j < k → byteAt s j ≠ c) (fun i => s.size - (intOf i).toNat)
  case atStart => exact ⟨0, Nat.zero_le _, rfl, fun j hj => by omega⟩
  case round =>
    obtain ⟨k, hk, rfl, hall⟩ := hrel
    have HA := Lib.hid hall
    clear hall
    by_cases hlt : k < s.size
    · have hb : byteAt s k = s[k] := by simp [byteAt, List.getD, hlt]; rfl
      by_cases hc : byteAt s k = c
      · have e1 := u8_eq' (hb ▸ hc)
        go_wp2_with fail
        go_ret
        exact ⟨ret_bool (hasB_yes hlt hc).symm, rfl⟩
      · have e1 := u8_ne' (hb ▸ hc)
        go_wp2_with fail
        go_round
        case rel => exact ⟨k + 1, by omega, by go_num, fun j hj => by
          by_cases hjk : j = k
          · subst hjk; exact hc
          · exact HA.out j (by omega)⟩
        case measure => simp [intOf]; omega
    · obtain rfl : k = s.size := by omega
      go_wp2_with fail
      go_ret
      exact ⟨ret_bool (hasB_no HA.out).symm, rfl⟩

set_option maxHeartbeats 1600000 in
theorem ref_Same (b1 o1 n1 c1 b2 o2 n2 c2 : Nat) (l1 l2 : List ByteArray) (w : World) (h1 : StrRow w b1 o1 n1 l1) (h2 : StrRow w b2 o2 n2 l2) (hn1 : n1 ≤ 140737488351232) (hn2 : n2 ≤ 140737488351232) :
    Calls Tryz.prog 12 #[.slice (some ⟨b1, o1, none⟩) n1 c1, .slice (some ⟨b2, o2, none⟩) n2 c2] w fun e w' => e = .returned (.bool (decide (l1 = l2))) ∧ ∃ m, w.drewN m = w' := by
  by_cases hn : n1 = n2
  · subst hn
    go_enter Tryz.func12, Tryz.ntmps12
    go_wp2_with fail
    go_loopw [5] (fun i wr => ∃ k m : Nat, k ≤ n1 ∧ i = .int .i64 k ∧ w.drewN m = wr ∧ ∀ j, j < k → l1.getD j ByteArray.empty = l2.getD j ByteArray.empty) (fun i _ => n1 - (intOf i).toNat)
    case atStart => exact ⟨0, 0, Nat.zero_le _, rfl, rfl, fun j hj => by omega⟩
    case round =>
      obtain ⟨k, m, hk, rfl, rfl, hall⟩ := hrel
      have HA := Lib.hid hall
      clear hall
      by_cases hlt : k < n1
      · have e1 : w.cell? ⟨b1, o1 + k, none⟩ = some (.string (l1.getD k ByteArray.empty)) := h1.2 k hlt
        have e2 : w.cell? ⟨b2, o2 + k, none⟩ = some (.string (l2.getD k ByteArray.empty)) := h2.2 k hlt
        have i1 : (k : Int) < (n1 : Int) := by omega
        generalize hx1 : l1.getD k ByteArray.empty = x1 at e1
        generalize hx2 : l2.getD k ByteArray.empty = x2 at e2
        have HX1 := Lib.hid hx1
        have HX2 := Lib.hid hx2
        clear hx1 hx2
        by_cases hx : x1 = x2
        · have e3 : (x1.toList == x2.toList) = true := by rw [str_eqB]; simpa using hx
          have HX := Lib.hid hx
          clear hx
          go_wp2_with fail
          go_quiet (fail)
          go_wp2_with fail
          go_roundw
          case rel => exact ⟨k + 1, _, by omega, by go_num, rfl, fun j hj => by
            by_cases hjk : j = k
            · subst hjk; rw [HX1.out, HX2.out, HX.out]
            · exact HA.out j (by omega)⟩
          case measure => simp [intOf]; omega
        · have e3 : (x1.toList == x2.toList) = false := by rw [str_eqB]; simpa using hx
          have hne : l1 ≠ l2 := fun h => hx (by rw [← HX1.out, ← HX2.out, h])
          have HNE := Lib.hid hne
          clear hne hx
          go_wp2_with fail
          go_quiet (fail)
          go_wp2_with fail
          go_ret
          exact ⟨ret_bool (decide_eq_false HNE.out).symm, _, (World.drewN_drewN _ _ _).symm⟩
      · obtain rfl : k = n1 := by omega
        have heq : l1 = l2 := by
          refine List.ext_getElem (h1.1.trans h2.1.symm) (fun j h h' => ?_)
          have := HA.out j (by rw [← h1.1]; exact h)
          simpa [List.getD, h, h'] using this
        have HE := Lib.hid heq
        clear heq
        go_wp2_with fail
        go_ret
        exact ⟨ret_bool (decide_eq_true HE.out).symm, _, rfl⟩
  · have e1 : ((n1 : Int) != (n2 : Int)) = true := by simp; omega
    have hne : l1 ≠ l2 := fun h => hn (by rw [← h1.1, ← h2.1, h])
    have HNE := Lib.hid hne
    clear hne hn
    go_enter Tryz.func12, Tryz.ntmps12
    go_wp2_with fail
    go_ret
    exact ⟨ret_bool (decide_eq_false HNE.out).symm, 0, rfl⟩
end Go.Proofs.YtkgifenidmbdkaaGreatDoor

/- Bytes that a call owns: appending bytes, or a string's bytes, to them. -/
namespace Go.Proofs.YtkgifenidmbdkaaGreatDoor
open Go.RowKit

theorem info_byte : (Tryz.prog.info? 5).map (fun i => (i.zero, i.size, i.bytes)) = some (some (.int .u8 0), 1, 1) := by kernel_rfl

/-- A slice of bytes of the call's own. -/
def OwnB (w : World) (base : Nat) (v : Value) (l : List UInt8) : Prop := w.ownsRow base 5 1 v l.length (l.map byteV)

section
variable {w w' : World} {base : Nat} {v : Value} {l : List UInt8}
theorem OwnB.nil (w : World) (base : Nat) : OwnB w base (.slice none 0 0) [] := World.ownsRow_nil _ _ _ _
theorem OwnB.lit (w : World) (l : List UInt8) (cs : Array Value) (n : Nat) (hcs : cs = (l.map byteV).toArray) (hn : n = l.length) (hb : base ≤ w.heap.size) (hl : l.length ≤ 16777216) :
    OwnB (w.alloc (.cells cs 5)) base (.slice (some ⟨w.heap.size, 0, none⟩) n n) l := by
  subst hn
  have h := World.ownsRow_lit (base := base) (e := 5) (size := 1) w cs l.length hb (by unfold maxLen; omega) (by rw [hcs]; simp)
  unfold OwnB
  rw [hcs] at h ⊢
  simpa using h
theorem OwnB.below (h : OwnB w base v l) (hb : Below w.heap.size w w') : OwnB w' base v l := ownsRow_below h hb
theorem OwnB.base' {b : Nat} (h : OwnB w base v l) (hb : b ≤ base) : OwnB w b v l := ownsRow_base h hb
theorem OwnB.shape (h : OwnB w base v l) : (l = [] ∧ v = .slice none 0 0) ∨ ∃ g cap, v = .slice (some ⟨g, 0, none⟩) l.length cap ∧ l.length ≤ cap ∧ cap ≤ maxLen ∧ base ≤ g ∧ g < w.heap.size := by
  rcases h.2 with ⟨h0, h1⟩ | ⟨g, cap, cur, rfl, hg, hh, h1, h2, _⟩
  · exact .inl ⟨List.eq_nil_of_length_eq_zero h1, h0⟩
  · exact .inr ⟨g, cap, rfl, h1, h2, hg, lt_of_block hh⟩
theorem OwnB.sl (h : OwnB w base v l) : BytesSl w v ⟨l.toArray⟩ := by
  have hsz : (⟨l.toArray⟩ : ByteArray).size = l.length := by show l.toArray.size = _; simp
  rcases h.shape with ⟨rfl, rfl⟩ | ⟨g, cap, rfl, h1, h2, _, h4⟩
  · exact .inl ⟨rfl, none, 0, rfl⟩
  · refine .inr ⟨g, 0, cap, by rw [hsz], by rw [hsz]; exact h1, h2, h4, fun j hj => ?_⟩
    rw [hsz] at hj
    rw [Nat.zero_add, World.ownsRow.cellAt h j (by omega)]
    simp [hj, byteV, byteAt]
end

section
variable {w : World} {ops : Array Oper} {rest : List Oper} {o : Oper} {a : Act} {Q : Exit → Act → World → Prop}

theorem wpList_app_bytes (hgd : o.guard = none) (s x : Operand) (ho : o.op = .call { callee := .builtin .append, args := #[s, x], argTypes := #[106, 106] })
    (base : Nat) (v : Value) (l : List UInt8) (hs : a.eval s = v) (hown : OwnB w base v l) (y : Value) (S : ByteArray) (hx : a.eval x = y) (hy : BytesSl w y S)
    (hl : l.length + S.size ≤ 1073741824) (hbase : base ≤ w.heap.size)
    (h : ∀ v' w', OwnB w' base v' (l ++ S.data.toList) → w.grownBy w' v.ownBlock → wpList Tryz.prog ops Q rest (a.put o.dst v') w') : wpList Tryz.prog ops Q (o :: rest) a w := by
  obtain ⟨i, hi, hz, hsize, hby⟩ := info_parts info_byte
  have hSl : S.data.toList.length = S.size := rfl
  rcases hy with ⟨h0, ad, cap, rfl⟩ | ⟨b, off, cap, rfl, hc, hcm, hbs, hp⟩
  · have hS : S.data.toList = [] := List.eq_nil_of_length_eq_zero (by rw [hSl]; exact h0)
    have hsrc : Src Tryz.prog i.size 106 (.slice ad 0 cap) 0 [] w := by
      cases ad with
      | none => exact Src.ofNil w Tryz.underlying106 cap
      | some ad => exact Src.ofSlice w Tryz.underlying106 ad 0 cap [] (by simp) (by simp) (by simp)
    refine wpList_plain hgd fun K hK => ?_
    have hrun : (Builtin.append_ #[106, 106] o.type #[v, .slice ad 0 cap]).run Tryz.prog w = .ok v w := by
      rcases hown.shape with ⟨_, rfl⟩ | ⟨g, c, rfl, h1, _⟩
      · exact run_append_nothing w _ _ _ 5 i Tryz.underlying106 hi none 0 0 (Nat.le_refl _) _ hsrc
      · exact run_append_nothing w _ _ _ 5 i Tryz.underlying106 hi _ _ _ h1 _ hsrc
    unfold Oper.wp
    simp [execOp, ho, resolve, invoke, builtin, hs, hx, hrun, Result.andThen]
    refine hK _ _ (h v w (by rw [hS, List.append_nil]; exact hown) (below_grownBy (Below.refl _ _) _))
  · refine wpList_append_own _ hgd s x 106 ho base 5 i (.int .u8 0) 1 1 Tryz.underlying106 hi hz hsize hby rfl (by decide) v _ _ hs hown _ _ cap (S.data.toList.map byteV) hx (by simp [hSl]) ?_ ?_ (by unfold maxLen; omega) (by omega) hbase ?_
    · intro j u hj
      have hj' : j < S.size := by
        have := (List.getElem?_eq_some_iff.1 hj).1
        simpa [hSl] using this
      rw [Addr.add_lit, hp j hj', ← hj]
      have hj2 : j < S.data.toList.length := hj'
      simp only [List.getElem?_map, List.getElem?_eq_getElem hj2, Option.map_some, byteV, byteAt, List.getD, Option.getD_some]
    · intro u hu
      obtain ⟨_, _, rfl⟩ := List.mem_map.1 hu
      rfl
    · intro v' w' h1 h2 _
      refine h v' w' ?_ h2
      unfold OwnB
      rw [List.length_append, List.map_append, hSl]
      exact h1
end
end Go.Proofs.YtkgifenidmbdkaaGreatDoor

/- Where a call's own bytes grow, what stood before stands. -/
namespace Go.Proofs.YtkgifenidmbdkaaGreatDoor
open Go.RowKit

theorem OwnB.under {w0 w w' : World} {base : Nat} {v : Value} {l : List UInt8} (h : OwnB w base v l) (hb : Below w0.heap.size w0 w) (hB : w0.heap.size ≤ base) (hg : w.grownBy w' v.ownBlock) : Below w0.heap.size w0 w' :=
  hb.grown hg hb.size (fun j hj => Nat.le_trans hB (World.ownsRow.lt h j hj).1)
theorem row_len {w : World} {base : Nat} {e : TypeId} {size : Nat} {v : Value} {n : Nat} {xs : List Value} (h : w.ownsRow base e size v n xs) : ∃ a cap, v = .slice a n cap := by
  rcases h.2 with ⟨h0, h1⟩ | ⟨g, cap, cur, rfl, _⟩
  · exact ⟨none, 0, by rw [h0, h1]⟩
  · exact ⟨_, _, rfl⟩
end Go.Proofs.YtkgifenidmbdkaaGreatDoor

/- A slice of one-cell elements that is read as values. -/
namespace Go.Proofs.YtkgifenidmbdkaaGreatDoor
open Go.RowKit

/-- A slice of one-cell elements that reads as these values. -/
def RowSl (w : World) (a : Option Addr) (l : List Value) : Prop := ∀ i v, l[i]? = some v → ∃ b, a = some ⟨b, 0, none⟩ ∧ b < w.heap.size ∧ w.cell? ⟨b, i, none⟩ = some v
theorem row_sl {w : World} {base n : Nat} {e : TypeId} {v : Value} {l : List Value} (h : w.ownsRow base e 1 v n l) (hn : n = l.length) : ∃ a c, v = .slice a l.length c ∧ l.length ≤ c ∧ c ≤ maxLen ∧ RowSl w a l := by
  subst hn
  have h' := h
  rcases h.2 with ⟨e0, e1⟩ | ⟨g, cap, cur, e0, hg, hh, h1, h2, _⟩
  · refine ⟨none, 0, by rw [e0, e1], by omega, by unfold maxLen; omega, fun i c hc => ?_⟩
    have := (List.getElem?_eq_some_iff.1 hc).1
    omega
  · refine ⟨_, cap, e0, h1, h2, fun i c hc => ?_⟩
    have hlt := (List.getElem?_eq_some_iff.1 hc).1
    subst e0
    refine ⟨g, rfl, lt_of_block hh, ?_⟩
    rw [h'.cellAt i (by omega), hc]
theorem RowSl.below {w w' : World} {a : Option Addr} {l : List Value} (h : RowSl w a l) (hb : Below w.heap.size w w') : RowSl w' a l := by
  intro i v hv
  obtain ⟨b, e, hlt, h1⟩ := h i v hv
  exact ⟨b, e, Nat.lt_of_lt_of_le hlt hb.size, (hb.cell (p := ⟨b, i, none⟩) hlt).trans h1⟩
/-- .. where a newer row is written. -/
theorem RowSl.mid {w w1 w2 : World} {a : Option Addr} {l : List Value} {g : Nat} (h : RowSl w a l) (hb : Below w.heap.size w w1) (hg : w1.grownBy w2 (some g)) (hn : w.heap.size ≤ g) : RowSl w2 a l := by
  intro i v hv
  obtain ⟨b, e, hlt, h1⟩ := h i v hv
  have h2 := Nat.lt_of_lt_of_le hlt hb.size
  have hk := hg.block b h2 (fun e => by injection e with e; omega)
  exact ⟨b, e, Nat.lt_of_lt_of_le h2 hg.size, (World.cell?_of_block hk).trans ((hb.cell (p := ⟨b, i, none⟩) hlt).trans h1)⟩
end Go.Proofs.YtkgifenidmbdkaaGreatDoor
