/- Plain: the reference's reader of a pattern with points and stars, two signs at a time. -/
import Derived.Test.YtlnnimmiifdnnaaDoorGlobPoint
namespace Go.Proofs.YtlnnimmiifdnnaaDoor

/-- Where the reference's reader stands at a place: the reader of single characters has these parts there, and no star waits for one. -/
def RSt (l : List Nat) (i place : Nat) (ps : List GPart) : Prop :=
  ∃ s : PSt, s.escaped = false ∧ s.place = place ∧ s.parts = ps ∧ (s.opened = false ∨ l[i]? ≠ some 42) ∧ prun pinit l = prun s (l.drop i)

theorem put92 : (putN 92).length = 1 := by decide
theorem put42 : (putN 42).length = 1 := by decide
theorem drop_at {l : List Nat} {i d : Nat} (h : l[i]? = some d) : l.drop i = d :: l.drop (i + 1) := by
  obtain ⟨hi, rfl⟩ := List.getElem?_eq_some_iff.1 h
  exact List.drop_eq_getElem_cons hi
theorem prun_yes {s t : PSt} {c : Nat} {l : List Nat} (h : pstep s c = some t) : prun s (c :: l) = prun t l := by rw [prun, h]
theorem prun_no {s : PSt} {c : Nat} {l : List Nat} (h : pstep s c = none) : prun s (c :: l) = (s, some s.place) := by rw [prun, h]
section
variable {l : List Nat} {i pl c : Nat} {ps : List GPart}
theorem RSt.zero : RSt l 0 0 [] := ⟨pinit, rfl, rfl, rfl, .inl rfl, rfl⟩
theorem RSt.done (h : RSt l l.length pl ps) : ∃ s, prun pinit l = (s, none) ∧ s.escaped = false ∧ s.parts = ps := by
  obtain ⟨s, h1, _, h3, _, h5⟩ := h
  rw [List.drop_length] at h5
  exact ⟨s, h5, h1, h3⟩
theorem RSt.bad (h : RSt l i pl ps) (hc : l[i]? = some 42) : ∃ s, prun pinit l = (s, some pl) := by
  obtain ⟨s, h1, rfl, _, h4, h5⟩ := h
  rcases h4 with h4 | h4
  · rw [drop_at hc, prun_no (by unfold pstep; rw [if_neg (by simp [h1]), if_neg (by omega), if_pos rfl, if_neg (by simp [h4])])] at h5
    exact ⟨s, h5⟩
  · exact absurd hc h4
theorem RSt.short (h : RSt l i pl ps) (hc : l[i]? = some 92) (he : i + 1 = l.length) : ∃ s, prun pinit l = (s, none) ∧ s.escaped = true := by
  obtain ⟨s, h1, _, _, _, h5⟩ := h
  rw [drop_at hc, he, List.drop_length, prun_yes (by unfold pstep; rw [if_neg (by simp [h1]), if_pos rfl])] at h5
  exact ⟨_, h5, rfl⟩
/-- Behind a part: with a star, or with none. -/
theorem RSt.behind {s : PSt} {q : GPart} (h : prun pinit l = prun s (l.drop i)) (h1 : s.escaped = false) (h2 : s.opened = true) (h3 : s.parts = ps ++ [q]) (h4 : s.place = pl) :
    (l[i]? = some 42 → RSt l (i + 1) (pl + 1) (ps ++ [⟨q.char, q.wild, true⟩])) ∧ (l[i]? ≠ some 42 → RSt l i pl (ps ++ [q])) := by
  refine ⟨fun hc => ?_, fun hc => ⟨s, h1, h4, h3, .inr hc, h⟩⟩
  rw [drop_at hc, prun_yes (by unfold pstep; rw [if_neg (by simp [h1]), if_neg (by omega), if_pos rfl, if_pos h2])] at h
  refine ⟨_, rfl, by show s.place + _ = _; rw [h4, put42], by show setMany s.parts = _; rw [h3, setMany_snoc], .inl rfl, h⟩
theorem RSt.esc (h : RSt l i pl ps) (hc : l[i]? = some 92) (hd : l[i + 1]? = some c) :
    (l[i + 2]? = some 42 → RSt l (i + 3) (pl + 1 + (putN c).length + 1) (ps ++ [⟨c, false, true⟩])) ∧ (l[i + 2]? ≠ some 42 → RSt l (i + 2) (pl + 1 + (putN c).length) (ps ++ [⟨c, false, false⟩])) := by
  obtain ⟨s, h1, rfl, rfl, _, h5⟩ := h
  rw [drop_at hc, drop_at hd, prun_yes (by unfold pstep; rw [if_neg (by simp [h1]), if_pos rfl]), prun_yes (by unfold pstep; rw [if_pos rfl])] at h5
  have := RSt.behind (l := l) (i := i + 2) (pl := s.place + 1 + (putN c).length) (ps := s.parts) (q := ⟨c, false, false⟩) h5 rfl rfl rfl (by show s.place + (putN 92).length + _ = _; rw [put92])
  exact this
theorem RSt.char (h : RSt l i pl ps) (hc : l[i]? = some c) (h92 : c ≠ 92) (h42 : c ≠ 42) :
    (l[i + 1]? = some 42 → RSt l (i + 2) (pl + (putN c).length + 1) (ps ++ [⟨c, decide (c = 46), true⟩])) ∧ (l[i + 1]? ≠ some 42 → RSt l (i + 1) (pl + (putN c).length) (ps ++ [⟨c, decide (c = 46), false⟩])) := by
  obtain ⟨s, h1, rfl, rfl, _, h5⟩ := h
  rw [drop_at hc, prun_yes (by unfold pstep; rw [if_neg (by simp [h1]), if_neg h92, if_neg h42])] at h5
  exact RSt.behind (l := l) (i := i + 1) (pl := s.place + (putN c).length) (ps := s.parts) (q := ⟨c, decide (c = 46), false⟩) h5 rfl rfl rfl rfl
end
theorem chk_end {p : ByteArray} {s : PSt} {k : Nat × Nat} (h1 : k = (0, 0)) (h : prun pinit (chrs p).1 = (s, none)) (he : s.escaped = false) : chkS p k = (0, 0) := by
  unfold chkS
  rw [h1, h]
  simp [he]
theorem chk_short {p : ByteArray} {s : PSt} {k : Nat × Nat} (h1 : k = (0, 0)) (h : prun pinit (chrs p).1 = (s, none)) (he : s.escaped = true) : chkS p k = (10, p.size) := by
  unfold chkS
  rw [h1, h]
  simp [he]
theorem chk_bad {p : ByteArray} {s : PSt} {k : Nat × Nat} {i : Nat} (h1 : k = (0, 0)) (h : prun pinit (chrs p).1 = (s, some i)) : chkS p k = (11, i) := by
  unfold chkS
  rw [h1, h]
  simp
end Go.Proofs.YtlnnimmiifdnnaaDoor
