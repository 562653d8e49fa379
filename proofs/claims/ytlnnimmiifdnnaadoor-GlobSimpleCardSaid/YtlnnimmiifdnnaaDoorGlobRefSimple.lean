/- The reference's Simple. -/
import Derived.Test.YtlnnimmiifdnnaaDoorGlobRefCheckS
import Derived.Test.YtlnnimmiifdnnaaDoorOwn3
namespace Go.Proofs.YtlnnimmiifdnnaaDoor
open Go.RowKit

theorem okS_iff (p : ByteArray) : (chkS p (chkP p)).1 = 0 ↔ okS p = true := by
  have hk := chkP_ok p
  unfold okS chkS
  by_cases h : (chkP p).1 = 0
  · rw [if_neg (by simp [h]), hk.1 h]
    cases hx : (prun pinit (chrs p).1).2 with
    | none =>
      cases (prun pinit (chrs p).1).1.escaped <;> simp
    | some i => simp
  · rw [if_pos h]
    have : okP p = false := by rw [Bool.eq_false_iff]; exact fun h2 => h (hk.2 h2)
    rw [this]
    simp [h]
theorem okS_run {p : ByteArray} (h : okS p = true) : okP p = true ∧ (prun pinit (chrs p).1).2 = none ∧ (prun pinit (chrs p).1).1.escaped = false := by
  unfold okS at h
  rw [Bool.and_eq_true, Bool.and_eq_true] at h
  exact ⟨h.1, by simpa using h.2.1, by simpa using h.2.2⟩
/-- One step of the reference's reader, in a pattern that is right. -/
theorem RSt.step {p : ByteArray} {i pl b : Nat} {ps : List GPart} (hok : okS p = true) (h : RSt (chrs p).1 i pl ps) (hb : (chrs p).1[i]? = some b) :
    b ≠ 42 ∧ ∃ j c pl', j = (if b = 92 then i + 1 else i) ∧ (chrs p).1[j]? = some c ∧
      (((chrs p).1[j + 1]? = some 42 → RSt (chrs p).1 (j + 2) (pl' + 1) (ps ++ [⟨c, decide (b = 46), true⟩])) ∧ ((chrs p).1[j + 1]? ≠ some 42 → RSt (chrs p).1 (j + 1) pl' (ps ++ [⟨c, decide (b = 46), false⟩]))) := by
  obtain ⟨_, hr2, hr3⟩ := okS_run hok
  have h42 : b ≠ 42 := by
    rintro rfl
    obtain ⟨s, hs⟩ := h.bad hb
    rw [hs] at hr2
    cases hr2
  refine ⟨h42, ?_⟩
  by_cases h92 : b = 92
  · subst h92
    by_cases hend : i + 1 = (chrs p).1.length
    · obtain ⟨s, hs, he⟩ := h.short hb hend
      rw [hs] at hr3
      rw [he] at hr3
      cases hr3
    · have hlt := (List.getElem?_eq_some_iff.1 hb).1
      obtain ⟨c, hc⟩ : ∃ c, (chrs p).1[i + 1]? = some c := ⟨_, List.getElem?_eq_getElem (by omega)⟩
      exact ⟨i + 1, c, pl + 1 + (putN c).length, by rw [if_pos rfl], hc, h.esc hb hc⟩
  · exact ⟨i, b, pl + (putN b).length, by rw [if_neg h92], hb, h.char hb h92 h42⟩
theorem RSt.end' {p : ByteArray} {pl : Nat} {ps : List GPart} (h : RSt (chrs p).1 (chrs p).1.length pl ps) : patS p = ps := by
  obtain ⟨s, hs, _, h3⟩ := h.done
  unfold patS
  rw [hs]
  exact h3
def charsV (ps : List GPart) : List Value := ps.map fun q => intV q.char
def wildsV (ps : List GPart) : List Value := ps.map fun q => .bool q.wild
def manysV (ps : List GPart) : List Value := ps.map fun q => .bool q.many
theorem charsV_len (ps : List GPart) : (charsV ps).length = ps.length := by unfold charsV; simp
theorem wildsV_len (ps : List GPart) : (wildsV ps).length = ps.length := by unfold wildsV; simp
theorem manysV_len (ps : List GPart) : (manysV ps).length = ps.length := by unfold manysV; simp
theorem charsV_at {ps : List GPart} {i : Nat} {q : GPart} (h : ps[i]? = some q) : (charsV ps)[i]? = some (.int .i64 (q.char : Int)) := by unfold charsV; rw [List.getElem?_map, h]; rfl
theorem wildsV_at {ps : List GPart} {i : Nat} {q : GPart} (h : ps[i]? = some q) : (wildsV ps)[i]? = some (.bool q.wild) := by unfold wildsV; rw [List.getElem?_map, h]; rfl
theorem manysV_at {ps : List GPart} {i : Nat} {q : GPart} (h : ps[i]? = some q) : (manysV ps)[i]? = some (.bool q.many) := by unfold manysV; rw [List.getElem?_map, h]; rfl
theorem Own3.snoc {w : World} {B : Nat} {a b c : Value} {ps : List GPart} {q : GPart} (h : Own3 w B a b c (charsV ps ++ [intV q.char]) (wildsV ps ++ [.bool q.wild]) (manysV ps ++ [.bool q.many])) : Own3 w B a b c (charsV (ps ++ [q])) (wildsV (ps ++ [q])) (manysV (ps ++ [q])) := by
  have e1 : charsV (ps ++ [q]) = charsV ps ++ [intV q.char] := by unfold charsV; simp
  have e2 : wildsV (ps ++ [q]) = wildsV ps ++ [.bool q.wild] := by unfold wildsV; simp
  have e3 : manysV (ps ++ [q]) = manysV ps ++ [.bool q.many] := by unfold manysV; simp
  rw [e1, e2, e3]
  exact h
theorem own3_under {w0 w w1 w2 : World} {B : Nat} {e : TypeId} {o : Obj} {v : Value} {xs : List Value} (hb : Below w0.heap.size w0 w) (hB : w0.heap.size ≤ B) (hown : w.ownsRow B e 1 v xs.length xs) (hg : (w.alloc o).grownBy w2 v.ownBlock) : Below w0.heap.size w0 w2 := below_app hb hown hB hg

/-- The three lists of the reference's Simple, behind the first loop. -/
def SimpleLists (p : ByteArray) (w5 : World) (a b c : Value) (wx : World) : Prop := Own3 wx w5.heap.size a b c (charsV (patS p)) (wildsV (patS p)) (manysV (patS p)) ∧ (patS p).length ≤ (chrs p).1.length ∧ Below w5.heap.size w5 wx
end Go.Proofs.YtlnnimmiifdnnaaDoor
