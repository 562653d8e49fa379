/- Plain: patterns with points and stars. -/
import Derived.Test.YtlnnimmiifdnnaaDoorGlobLaw
namespace Go.Proofs.YtlnnimmiifdnnaaDoor

/-- The reader of a pattern with points and stars, behind some characters. -/
structure PSt where
  parts : List GPart
  place : Nat
  opened : Bool
  escaped : Bool
def setMany : List GPart → List GPart
  | [] => []
  | [p] => [⟨p.char, p.wild, true⟩]
  | p :: q :: r => p :: setMany (q :: r)
def pstep (s : PSt) (c : Nat) : Option PSt :=
  if s.escaped = true then some ⟨s.parts ++ [⟨c, false, false⟩], s.place + (putN c).length, true, false⟩
  else if c = 92 then some ⟨s.parts, s.place + (putN c).length, s.opened, true⟩
  else if c = 42 then (if s.opened = true then some ⟨setMany s.parts, s.place + (putN c).length, false, false⟩ else none)
  else some ⟨s.parts ++ [⟨c, decide (c = 46), false⟩], s.place + (putN c).length, true, false⟩
def prun (s : PSt) : List Nat → PSt × Option Nat
  | [] => (s, none)
  | c :: l => match pstep s c with
    | some t => prun t l
    | none => (s, some s.place)
def pinit : PSt := ⟨[], 0, false, false⟩
/-- What is wrong with a pattern with points and stars: the error's number, its place. -/
def chkS (p : ByteArray) (k : Nat × Nat) : Nat × Nat := if k.1 ≠ 0 then k else match (prun pinit (chrs p).1).2 with
  | some i => (11, i)
  | none => if (prun pinit (chrs p).1).1.escaped = true then (10, p.size) else (0, 0)
def okS (p : ByteArray) : Bool := okP p && ((prun pinit (chrs p).1).2.isNone && !(prun pinit (chrs p).1).1.escaped)
def patS (p : ByteArray) : List GPart := (prun pinit (chrs p).1).1.parts
/-- Is a text in the language of a pattern with points and stars? -/
def simpleB (p s : ByteArray) : Bool := okS p && ((chrs s).2.isNone && langB false (patS p) (chrs s).1)

theorem setMany_snoc (l : List GPart) (p : GPart) : setMany (l ++ [p]) = l ++ [⟨p.char, p.wild, true⟩] := by
  induction l with
  | nil => rfl
  | cons q l ih =>
    cases hx : l ++ [p] with
    | nil => simp at hx
    | cons r m =>
      rw [List.cons_append, hx]
      show q :: setMany (r :: m) = _
      rw [← hx, ih]; rfl
theorem setMany_len (l : List GPart) : (setMany l).length = l.length := by
  induction l with
  | nil => rfl
  | cons q l ih =>
    cases l with
    | nil => rfl
    | cons r m => show (setMany (r :: m)).length + 1 = _; rw [ih]; rfl

/-- The characters of a text's pattern. -/
def escC (c : Nat) : List Nat := if c = 46 ∨ c = 42 ∨ c = 92 then [92, c] else [c]
def escB (c : UInt8) : List UInt8 := if c.toNat = 46 ∨ c.toNat = 42 ∨ c.toNat = 92 then [92, c] else [c]
def quoteS (s : ByteArray) : ByteArray := ⟨(s.data.toList.flatMap escB).toArray⟩
theorem prun_esc (l : List Nat) : ∀ s : PSt, s.escaped = false → (prun s (l.flatMap escC)).2 = none ∧ (prun s (l.flatMap escC)).1.escaped = false ∧ (prun s (l.flatMap escC)).1.parts = s.parts ++ l.map fun c => ⟨c, false, false⟩ := by
  induction l with
  | nil => intro s hs; exact ⟨rfl, hs, by simp [prun]⟩
  | cons c l ih =>
    intro s hs
    rw [List.flatMap_cons]
    by_cases hc : c = 46 ∨ c = 42 ∨ c = 92
    · have e1 : escC c = [92, c] := by unfold escC; rw [if_pos hc]
      have e2 : pstep s 92 = some ⟨s.parts, s.place + (putN 92).length, s.opened, true⟩ := by unfold pstep; rw [if_neg (by simp [hs]), if_pos rfl]
      have e3 : ∀ t : PSt, t.escaped = true → pstep t c = some ⟨t.parts ++ [⟨c, false, false⟩], t.place + (putN c).length, true, false⟩ := fun t ht => by unfold pstep; rw [if_pos ht]
      rw [e1]
      show (prun s (92 :: c :: l.flatMap escC)).2 = none ∧ _
      have e4 : prun s (92 :: c :: l.flatMap escC) = prun ⟨s.parts ++ [⟨c, false, false⟩], s.place + (putN 92).length + (putN c).length, true, false⟩ (l.flatMap escC) := by
        rw [prun, e2]
        show prun _ (c :: _) = _
        rw [prun, e3 _ rfl]
      show (prun s (92 :: c :: l.flatMap escC)).2 = none ∧ (prun s (92 :: c :: l.flatMap escC)).1.escaped = false ∧ (prun s (92 :: c :: l.flatMap escC)).1.parts = _
      rw [e4]
      obtain ⟨h1, h2, h3⟩ := ih ⟨s.parts ++ [⟨c, false, false⟩], s.place + (putN 92).length + (putN c).length, true, false⟩ rfl
      exact ⟨h1, h2, by rw [h3]; simp⟩
    · have e1 : escC c = [c] := by unfold escC; rw [if_neg hc]
      have e2 : pstep s c = some ⟨s.parts ++ [⟨c, decide (c = 46), false⟩], s.place + (putN c).length, true, false⟩ := by
        unfold pstep; rw [if_neg (by simp [hs]), if_neg (by omega), if_neg (by omega)]
      rw [e1]
      have e4 : prun s (c :: l.flatMap escC) = prun ⟨s.parts ++ [⟨c, false, false⟩], s.place + (putN c).length, true, false⟩ (l.flatMap escC) := by
        rw [prun, e2, decide_eq_false (by omega)]
      show (prun s (c :: l.flatMap escC)).2 = none ∧ (prun s (c :: l.flatMap escC)).1.escaped = false ∧ (prun s (c :: l.flatMap escC)).1.parts = _
      rw [e4]
      obtain ⟨h1, h2, h3⟩ := ih ⟨s.parts ++ [⟨c, false, false⟩], s.place + (putN c).length, true, false⟩ rfl
      exact ⟨h1, h2, by rw [h3]; simp⟩

theorem flat_put (c : Nat) (hc : rightC c) : (putL c).flatMap escB = (escC c).flatMap putL := by
  have hlt := rightC_lt hc
  by_cases h : c < 128
  · have e : putL c = [UInt8.ofNat c] := by unfold putL; rw [put1 h]; rfl
    have e9 : putL 92 = [92] := rfl
    have hn : (UInt8.ofNat c).toNat = c := by rw [UInt8.toNat_ofNat']; exact Nat.mod_eq_of_lt (by omega)
    rw [e]
    unfold escC
    split
    · rename_i h1
      simp only [List.flatMap_cons, List.flatMap_nil, List.append_nil, escB, hn, if_pos h1, e, e9]
      rfl
    · rename_i h1
      simp only [List.flatMap_cons, List.flatMap_nil, List.append_nil, escB, hn, if_neg h1, e]
  · have e1 : escC c = [c] := by unfold escC; rw [if_neg (by omega)]
    rw [e1]
    have hall : ∀ b ∈ putL c, escB b = [b] := by
      intro b hb
      unfold putL at hb
      obtain ⟨x, hx, rfl⟩ := List.mem_map.1 hb
      have hx2 : 128 ≤ x ∧ x < 256 := by
        unfold putN at hx
        rw [if_neg h] at hx
        split at hx
        · simp at hx; omega
        · split at hx
          · simp at hx; omega
          · simp at hx; omega
      have hn : (UInt8.ofNat x).toNat = x := by rw [UInt8.toNat_ofNat']; exact Nat.mod_eq_of_lt (by omega)
      unfold escB
      rw [hn, if_neg (by omega)]
    have : ∀ l : List UInt8, (∀ b ∈ l, escB b = [b]) → l.flatMap escB = l := by
      intro l
      induction l with
      | nil => intro _; rfl
      | cons b l ih => intro h; rw [List.flatMap_cons, h b (by simp), ih fun x hx => h x (by simp [hx])]; rfl
    rw [this _ hall]
    simp
theorem quote_put (l : List Nat) (h : ∀ c ∈ l, rightC c) : (putAll l).flatMap escB = putAll (l.flatMap escC) := by
  induction l with
  | nil => rfl
  | cons c l ih =>
    rw [putAll_cons, List.flatMap_append, flat_put c (h c (by simp)), ih fun x hx => h x (by simp [hx]), List.flatMap_cons, putAll_app]
    rfl
theorem chrs_quote (s : ByteArray) (h : (chrs s).2 = none) : chrs (quoteS s) = ((chrs s).1.flatMap escC, none) := by
  have h1 := put_chrs s h
  have h2 := right_chrs s
  unfold quoteS
  rw [← h1, quote_put _ h2]
  refine chrs_put _ fun c hc => ?_
  obtain ⟨x, hx, hcx⟩ := List.mem_flatMap.1 hc
  unfold escC at hcx
  split at hcx
  · simp at hcx
    rcases hcx with rfl | rfl
    · exact .inl (by omega)
    · exact h2 _ hx
  · simp at hcx; subst hcx; exact h2 _ hx
theorem quote_size (s : ByteArray) : (quoteS s).size ≤ 2 * s.size := by
  have : ∀ l : List UInt8, (l.flatMap escB).length ≤ 2 * l.length := by
    intro l
    induction l with
    | nil => simp
    | cons b l ih =>
      rw [List.flatMap_cons, List.length_append, List.length_cons]
      have : (escB b).length ≤ 2 := by unfold escB; split <;> simp
      omega
  show (s.data.toList.flatMap escB).toArray.size ≤ 2 * s.data.toList.length
  simpa using this s.data.toList
theorem lang_lits (l u : List Nat) : Lang false (l.map fun c => ⟨c, false, false⟩) u ↔ u = l := by
  induction l generalizing u with
  | nil => simp [Lang]
  | cons c l ih =>
    simp only [List.map_cons]
    constructor
    · rintro ⟨a, b, rfl, h1, h2⟩
      obtain ⟨x, rfl, hx⟩ := (oneOk_one rfl).1 h1
      rw [(ih b).1 h2]
      have : c = x := by simpa [standsB] using hx
      rw [this]; rfl
    · rintro rfl
      exact ⟨[c], l, rfl, (oneOk_one rfl).2 ⟨c, rfl, by simp [standsB]⟩, (ih l).2 rfl⟩
theorem simpleB_bad (p s : ByteArray) {i : Nat} (h : (chrs s).2 = some i) : simpleB p s = false := by
  unfold simpleB; rw [h]; simp
theorem simple_quote (s t : ByteArray) (hs : s.size ≤ 400) (h : (chrs s).2 = none) : simpleB (quoteS s) t = decide (t = s) := by
  have h1 := chrs_quote s h
  obtain ⟨k1, k2, k3⟩ := prun_esc (chrs s).1 pinit rfl
  have hok : okS (quoteS s) = true := by
    unfold okS okP
    rw [h1]
    have := quote_size s
    simp only [k1, k2, decide_eq_true (show (quoteS s).size ≤ 1024 by omega)]
    rfl
  unfold simpleB
  rw [hok, Bool.true_and]
  have hp : patS (quoteS s) = (chrs s).1.map fun c => ⟨c, false, false⟩ := by
    unfold patS
    rw [h1, k3]
    rfl
  rw [hp, Bool.eq_iff_iff, Bool.and_eq_true, langB_iff, lang_lits, Option.isNone_iff_eq_none, decide_eq_true_eq]
  constructor
  · rintro ⟨h2, h3⟩
    have e1 := put_chrs s h
    have e2 := put_chrs t h2
    rw [h3, e1] at e2
    apply ByteArray.ext
    apply Array.ext'
    exact e2.symm
  · rintro rfl
    exact ⟨h, rfl⟩
end Go.Proofs.YtlnnimmiifdnnaaDoor
