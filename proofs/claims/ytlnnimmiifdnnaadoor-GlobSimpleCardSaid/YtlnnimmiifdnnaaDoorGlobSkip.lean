/- glob.skip. -/
import Derived.Test.YtlnnimmiifdnnaaDoorGlobMem
import Derived.Test.YtlnnimmiifdnnaaDoorGlobStates
namespace Go.Proofs.YtlnnimmiifdnnaaDoor
open Go.RowKit

def boolsF (f : Nat → Bool) : Nat → Value := fun i => .bool (f i)
theorem rowIs_far {w w' : World} {b n : Nat} {t : TypeId} {f : Nat → Value} {row : Option Nat} (h : w.rowIs b t n f) (hg : w.grownBy w' row) (hr : some b ≠ row) : w'.rowIs b t n f :=
  h.of_block (hg.block b h.lt hr)
theorem only_alloc {a w : World} {row : Option Nat} (h : a.grownBy w row) (o : Obj) : a.grownBy (w.alloc o) row :=
  ⟨h.os, h.tape, h.output, Nat.le_trans h.size (by simp), fun i hi hne => (Below.heap_alloc w o i (Nat.lt_of_lt_of_le hi h.size)).trans (h.block i hi hne)⟩
theorem only_setCell {a w : World} {g : Nat} (h : a.grownBy w (some g)) {p : Addr} (hp : p.block = g ∨ a.heap.size ≤ p.block) (u : Value) : a.grownBy (w.setCell p u) (some g) :=
  ⟨h.os, h.tape, h.output, by simpa [World.setCell] using h.size, fun i hi hne => (Below.heap_setCell w p u i (by
    rintro rfl
    rcases hp with hp | hp
    · exact hne (by rw [hp])
    · omega)).trans (h.block i hi hne)⟩

theorem skip_row {w : World} {g n i : Nat} {t : TypeId} {ps : List GPart} {f0 : Nat → Bool} {v : Bool} (h : w.rowIs g t n (fun j => if j = i + 1 then .bool v else boolsF (fun m => if m ≤ i then skipF ps f0 m else f0 m) j)) (hv : skipF ps f0 (i + 1) = v) :
    w.rowIs g t n (boolsF fun m => if m ≤ i + 1 then skipF ps f0 m else f0 m) := by
  refine h.congr fun j _ => ?_
  by_cases hj : j = i + 1
  · subst hj
    rw [if_pos rfl]
    show _ = Value.bool (if i + 1 ≤ i + 1 then _ else _)
    rw [if_pos (Nat.le_refl _), hv]
  · rw [if_neg hj]
    show Value.bool (if j ≤ i then _ else _) = Value.bool (if j ≤ i + 1 then _ else _)
    by_cases h2 : j ≤ i
    · rw [if_pos h2, if_pos (by omega)]
    · rw [if_neg h2, if_neg (by omega)]

set_option maxHeartbeats 3200000 in
theorem glob_skip (a : Option Addr) (n cap : Nat) (ps : List GPart) (g c2 : Nat) (f0 : Nat → Bool) (w : World) (hn : ps.length = n) (hn2 : n ≤ 16777216) (hsl : PartsSl w a ps) (hrow : w.rowIs g 4 (n + 1) (boolsF f0)) :
    Calls Tryd.prog 40 #[.slice a n cap, .slice (some ⟨g, 0, none⟩) (n + 1) c2] w fun e w' => e = .returned (.tuple #[]) ∧ w'.rowIs g 4 (n + 1) (boolsF (skipF ps f0)) ∧ w.grownBy w' (some g) := by
  have hne := hsl.ne hrow
  have hgw := hrow.lt
  have HNE := Lib.hid hne
  have HN := Lib.hid hn
  clear hne hn
  go_enter Tryd.func40, Tryd.ntmps40
  go_wp2_with fail
  go_loopw [8] (fun x wr => ∃ i : Nat, i ≤ n ∧ x = .int .i64 i ∧ wr.rowIs g 4 (n + 1) (boolsF fun m => if m ≤ i then skipF ps f0 m else f0 m) ∧ w.grownBy wr (some g)) (fun x _ => n - (intOf x).toNat)
  case atStart => exact ⟨0, Nat.zero_le _, rfl, hrow.congr (fun i _ => by
    unfold boolsF
    by_cases h : i ≤ 0
    · obtain rfl : i = 0 := by omega
      rfl
    · show Value.bool (f0 i) = Value.bool (if i ≤ 0 then _ else _)
      rw [if_neg h]), grown_refl _ _⟩
  case round =>
    obtain ⟨i, hil, rfl, hr, hg⟩ := hrel
    by_cases hlt : i < n
    · obtain ⟨p, hp⟩ : ∃ p, ps[i]? = some p := ⟨_, List.getElem?_eq_getElem (by rw [HN.out]; exact hlt)⟩
      obtain ⟨b, rfl, hbw, h1, h2, h3⟩ := (hsl.grown hg HNE.out) i p hp
      have hbg : b ≠ g := HNE.out b rfl (fun e => by rw [e] at hp; simp at hp)
      have hma := manyAt_of hp
      have hsk := skipF_succ ps f0 i
      have c0 := hr.cell (i := i) (by omega)
      have c1 := hr.cell (i := i + 1) (by omega)
      have hset := fun o u => (hr.set (i + 1) u).alloc o
      have hfz := hr.frozen (i + 1)
      have e0 : boolsF (fun m => if m ≤ i then skipF ps f0 m else f0 m) i = .bool (skipF ps f0 i) := by unfold boolsF; simp
      have e1 : boolsF (fun m => if m ≤ i then skipF ps f0 m else f0 m) (i + 1) = .bool (f0 (i + 1)) := by
        show Value.bool (if i + 1 ≤ i then _ else _) = _
        rw [if_neg (by omega)]
      rw [e0] at c0
      rw [e1] at c1
      rw [← hma] at h3
      generalize skipF ps f0 i = y at *
      generalize f0 (i + 1) = x at *
      generalize manyAt ps i = m at *
      have HSET := Lib.hid hset
      have HSK := Lib.hid hsk
      have HP := Lib.hid hp
      clear hset hsk hp e0 e1 hma HN hrow
      have hgr := fun o u => only_alloc (only_setCell hg (p := ⟨g, i + 1, none⟩) (.inl rfl) u) o
      have hglt := hr.lt
      have HGR := Lib.hid hgr
      clear hgr hr hg
      cases x <;> cases y <;> cases m
      all_goals
        go_wp2_with fail
        go_roundw
        case rel => exact ⟨i + 1, by omega, by go_num, skip_row (HSET.out _ _) HSK.out, HGR.out _ _⟩
        case measure => simp [intOf]; omega
    · obtain rfl : i = n := by omega
      go_wp2_with fail
      go_end0
      exact ⟨rfl, hr.congr (fun j hj => by
        show Value.bool (if j ≤ i then _ else _) = _
        rw [if_pos (by omega)]; rfl), hg⟩
end Go.Proofs.YtlnnimmiifdnnaaDoor
