/- Three slices of the call's own that grow side by side; a slice that is read as values. -/
import Derived.Test.YtlnnimmiifdnnaaDoorKit
import Derived.Test.YtlnnimmiifdnnaaDoorInts
import Derived.Test.YtlnnimmiifdnnaaDoorFill
import Derived.Maps.AppendAt
namespace Go.Proofs.YtlnnimmiifdnnaaDoor
open Go.RowKit

theorem info_bool : (Tryd.prog.info? 4).map (fun i => (i.zero, i.size, i.bytes)) = some (some (.bool false), 1, 1) := by kernel_rfl
/-- Two slices of the call's own lie apart. -/
def Apart (u v : Value) : Prop := ∀ k, u.ownBlock = some k → v.ownBlock ≠ some k
theorem Apart.symm {u v : Value} (h : Apart u v) : Apart v u := fun k h1 h2 => h k h2 h1
section
variable {w w' : World} {B n m : Nat} {e t : TypeId} {a a' u : Value} {xs ys : List Value}
theorem own_apart (h : w.ownsRow B e 1 u n xs) (hg : w.grownBy w' a.ownBlock) (hp : Apart a u) : w'.ownsRow B e 1 u n xs := by
  refine h.kept hg ?_
  cases hk : u.ownBlock with
  | none => exact .inl rfl
  | some k => exact .inr fun e => hp k e.symm hk
theorem apart_at (h : w.ownsRow B e 1 u n xs) (hp : Apart a u) (hat : a'.ownBlock = a.ownBlock ∨ a'.ownBlock = some w.heap.size) : Apart a' u := by
  intro k hk hu
  rcases hat with hat | hat
  · exact hp k (hat ▸ hk) hu
  · have := (h.lt k hu).2
    rw [hat] at hk
    cases hk
    omega
end
def Own3 (w : World) (B : Nat) (a b c : Value) (la lb lc : List Value) : Prop :=
  w.ownsRow B 3 1 a la.length la ∧ w.ownsRow B 4 1 b lb.length lb ∧ w.ownsRow B 4 1 c lc.length lc ∧ Apart a b ∧ Apart a c ∧ Apart b c
section
variable {w w' : World} {B : Nat} {a b c v : Value} {la lb lc : List Value} {x : Value}
theorem Own3.below (h : Own3 w B a b c la lb lc) (hb : Below w.heap.size w w') : Own3 w' B a b c la lb lc :=
  ⟨ownsRow_below h.1 hb, ownsRow_below h.2.1 hb, ownsRow_below h.2.2.1 hb, h.2.2.2⟩
theorem Own3.start (w : World) (hB : B ≤ w.heap.size) : Own3 (((w.alloc (.cells #[] 3)).alloc (.cells #[] 4)).alloc (.cells #[] 4)) B (.slice (some ⟨w.heap.size, 0, none⟩) 0 0) (.slice (some ⟨w.heap.size + 1, 0, none⟩) 0 0) (.slice (some ⟨w.heap.size + 1 + 1, 0, none⟩) 0 0) [] [] [] := by
  have h1 := World.ownsRow_made (base := B) (e := 3) (size := 1) w #[] 0 hB (by unfold maxLen; omega) rfl
  have h2 := World.ownsRow_made (base := B) (e := 4) (size := 1) (w.alloc (.cells #[] 3)) #[] 0 (by simp; omega) (by unfold maxLen; omega) rfl
  have h3 := World.ownsRow_made (base := B) (e := 4) (size := 1) ((w.alloc (.cells #[] 3)).alloc (.cells #[] 4)) #[] 0 (by simp; omega) (by unfold maxLen; omega) rfl
  have z1 : (w.alloc (.cells #[] 3)).heap.size = w.heap.size + 1 := by simp
  have z2 : ((w.alloc (.cells #[] 3)).alloc (.cells #[] 4)).heap.size = w.heap.size + 1 + 1 := by simp
  rw [z1] at h2
  rw [z2] at h3
  refine ⟨ownsRow_below (ownsRow_below h1 ((Below.refl _ _).alloc (Nat.le_refl _) _)) ((Below.refl _ _).alloc (Nat.le_refl _) _), ownsRow_below h2 ((Below.refl _ _).alloc (Nat.le_refl _) _), h3, ?_, ?_, ?_⟩
  all_goals
    intro k h1 h2
    simp [Value.ownBlock] at h1 h2
    omega
theorem Own3.appA (h : Own3 w B a b c la lb lc) (ho : w'.ownsRow B 3 1 v (la.length + 1) (la ++ [x])) (hg : w.grownBy w' a.ownBlock) (hat : v.ownBlock = a.ownBlock ∨ v.ownBlock = some w.heap.size) : Own3 w' B v b c (la ++ [x]) lb lc := by
  obtain ⟨h1, h2, h3, h4, h5, h6⟩ := h
  refine ⟨by simpa using ho, own_apart h2 hg h4, own_apart h3 hg h5, apart_at h2 h4 hat, apart_at h3 h5 hat, h6⟩
theorem Own3.appB (h : Own3 w B a b c la lb lc) (ho : w'.ownsRow B 4 1 v (lb.length + 1) (lb ++ [x])) (hg : w.grownBy w' b.ownBlock) (hat : v.ownBlock = b.ownBlock ∨ v.ownBlock = some w.heap.size) : Own3 w' B a v c la (lb ++ [x]) lc := by
  obtain ⟨h1, h2, h3, h4, h5, h6⟩ := h
  refine ⟨own_apart h1 hg h4.symm, by simpa using ho, own_apart h3 hg h6, (apart_at h1 h4.symm hat).symm, h5, apart_at h3 h6 hat⟩
theorem Own3.appC (h : Own3 w B a b c la lb lc) (ho : w'.ownsRow B 4 1 v (lc.length + 1) (lc ++ [x])) (hg : w.grownBy w' c.ownBlock) (hat : v.ownBlock = c.ownBlock ∨ v.ownBlock = some w.heap.size) : Own3 w' B a b v la lb (lc ++ [x]) := by
  obtain ⟨h1, h2, h3, h4, h5, h6⟩ := h
  exact ⟨own_apart h1 hg h5.symm, own_apart h2 hg h6.symm, by simpa using ho, h4, (apart_at h1 h5.symm hat).symm, (apart_at h2 h6.symm hat).symm⟩
end
/-- A slice of one-cell elements that reads as these values. -/
def RowSl (w : World) (a : Option Addr) (l : List Value) : Prop := ∀ i v, l[i]? = some v → ∃ b, a = some ⟨b, 0, none⟩ ∧ b < w.heap.size ∧ w.cell? ⟨b, i, none⟩ = some v
theorem row_sl {w : World} {base n : Nat} {e : TypeId} {v : Value} {l : List Value} (h : w.ownsRow base e 1 v n l) (hn : n = l.length) : ∃ a c, v = .slice a l.length c ∧ l.length ≤ c ∧ c ≤ maxLen ∧ RowSl w a l := by
  subst hn
  have h' := h
  rcases h.2 with ⟨e0, e1⟩ | ⟨g, cap, cur, e0, hg, hh, h1, h2, _⟩
  · refine ⟨none, 0, by rw [e0, e1], by omega, by unfold maxLen; omega, fun i c hc => ?_⟩
    have := (List.getElem?_eq_some_iff.1 hc).1
    omega
  · refine ⟨_, cap, e0, h1, h2, fun i c hc => ?_⟩
    have hlt := (List.getElem?_eq_some_iff.1 hc).1
    subst e0
    refine ⟨g, rfl, lt_of_block hh, ?_⟩
    rw [h'.cellAt i (by omega), hc]
theorem RowSl.below {w w' : World} {a : Option Addr} {l : List Value} (h : RowSl w a l) (hb : Below w.heap.size w w') : RowSl w' a l := by
  intro i v hv
  obtain ⟨b, e, hlt, h1⟩ := h i v hv
  exact ⟨b, e, Nat.lt_of_lt_of_le hlt hb.size, (hb.cell (p := ⟨b, i, none⟩) hlt).trans h1⟩
/-- .. where a newer row is written. -/
theorem RowSl.mid {w w1 w2 : World} {a : Option Addr} {l : List Value} {g : Nat} (h : RowSl w a l) (hb : Below w.heap.size w w1) (hg : w1.grownBy w2 (some g)) (hn : w.heap.size ≤ g) : RowSl w2 a l := by
  intro i v hv
  obtain ⟨b, e, hlt, h1⟩ := h i v hv
  have h2 := Nat.lt_of_lt_of_le hlt hb.size
  have hk := hg.block b h2 (fun e => by injection e with e; omega)
  exact ⟨b, e, Nat.lt_of_lt_of_le h2 hg.size, (World.cell?_of_block hk).trans ((hb.cell (p := ⟨b, i, none⟩) hlt).trans h1)⟩
end Go.Proofs.YtlnnimmiifdnnaaDoor
