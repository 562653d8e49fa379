/- Plain: patterns with stars and question marks: what the statements say of them. -/
import Derived.Test.YtakcfgmibijdnaaGreatDoorQueryWritesM10
import Derived.Test.YtakcfgmibijdnaaGreatDoorQueryWritesM11
import Derived.Test.YtakcfgmibijdnaaGreatDoorQueryWritesM12
import Derived.Test.YtakcfgmibijdnaaGreatDoorQueryWritesM6
import Derived.Test.YtakcfgmibijdnaaGreatDoorQueryWritesM1
import Derived.Test.YtakcfgmibijdnaaGreatDoorQueryWritesM3

namespace Go.Proofs.YtakcfgmibijdnaaGreatDoor

def patP (p : ByteArray) : List GPart := (chrs p).1.map partOf
def okP (p : ByteArray) : Bool := decide (p.size ≤ 1024) && (chrs p).2.isNone
/-- Is a text in a pattern's language? -/
def matchB (p s : ByteArray) (f : Bool) : Bool := okP p && ((chrs s).2.isNone && langB f (patP p) (chrs s).1)
def signB (c : UInt8) : Bool := decide (c.toNat = 42) || decide (c.toNat = 63)
/-- What is ahead of the first sign, from a place on. -/
def leadFrom (p : ByteArray) : Nat → Nat → Nat
  | 0, i => i
  | f + 1, i => if i < p.size then (if signB (byteAt p i) = true then i else leadFrom p f (i + 1)) else i
def leadN (p : ByteArray) : Nat := leadFrom p p.size 0
def leadS (p : ByteArray) : ByteArray := p.extract 0 (leadN p)
def leastN (p : ByteArray) : Nat := if okP p = true then ((chrs p).1.filter fun c => decide (c ≠ 42)).length else 0

theorem leadFrom_spec (p : ByteArray) : ∀ f i, p.size - i ≤ f → i ≤ p.size → i ≤ leadFrom p f i ∧ leadFrom p f i ≤ p.size ∧ (∀ j, i ≤ j → j < leadFrom p f i → signB (byteAt p j) = false) ∧ (leadFrom p f i < p.size → signB (byteAt p (leadFrom p f i)) = true) := by
  intro f
  induction f with
  | zero =>
    intro i hf hi
    obtain rfl : i = p.size := by omega
    exact ⟨Nat.le_refl _, Nat.le_refl _, fun j h1 h2 => by unfold leadFrom at h2; omega, fun h => by unfold leadFrom at h; omega⟩
  | succ f ih =>
    intro i hf hi
    unfold leadFrom
    by_cases hlt : i < p.size
    · rw [if_pos hlt]
      by_cases hs : signB (byteAt p i) = true
      · rw [if_pos hs]
        exact ⟨Nat.le_refl _, hi, fun j h1 h2 => by omega, fun _ => hs⟩
      · rw [if_neg hs]
        obtain ⟨h1, h2, h3, h4⟩ := ih (i + 1) (by omega) (by omega)
        refine ⟨by omega, h2, fun j h5 h6 => ?_, h4⟩
        by_cases hj : j = i
        · rw [hj]; simpa using hs
        · exact h3 j (by omega) h6
    · rw [if_neg hlt]
      exact ⟨Nat.le_refl _, hi, fun j h1 h2 => by omega, fun h => absurd h hlt⟩
theorem leadN_spec (p : ByteArray) : leadN p ≤ p.size ∧ (∀ j, j < leadN p → signB (byteAt p j) = false) ∧ (leadN p < p.size → signB (byteAt p (leadN p)) = true) := by
  obtain ⟨_, h2, h3, h4⟩ := leadFrom_spec p p.size 0 (by omega) (by omega)
  exact ⟨h2, fun j hj => h3 j (Nat.zero_le _) hj, h4⟩
theorem leadN_is {p : ByteArray} {n : Nat} (h1 : n ≤ p.size) (h2 : ∀ j, j < n → signB (byteAt p j) = false) (h3 : n < p.size → signB (byteAt p n) = true) : leadN p = n := by
  obtain ⟨k1, k2, k3⟩ := leadN_spec p
  rcases Nat.lt_trichotomy (leadN p) n with h | h | h
  · have := k3 (by omega)
    rw [h2 _ h] at this; cases this
  · exact h
  · have := k2 n h
    rw [h3 (by omega)] at this; cases this

theorem matchB_iff (p s : ByteArray) (f : Bool) : matchB p s f = true ↔ p.size ≤ 1024 ∧ (chrs p).2 = none ∧ (chrs s).2 = none ∧ Lang f (patP p) (chrs s).1 := by
  unfold matchB okP
  simp only [Bool.and_eq_true, decide_eq_true_eq, Option.isNone_iff_eq_none, langB_iff]
  exact ⟨fun ⟨⟨a, b⟩, c, d⟩ => ⟨a, b, c, d⟩, fun ⟨a, b, c, d⟩ => ⟨⟨a, b⟩, c, d⟩⟩

theorem star_star (f : Bool) (u : List Nat) : Lang f [⟨0, true, true⟩, ⟨0, true, true⟩] u ↔ Lang f [⟨0, true, true⟩] u := by
  have h1 : ∀ v, oneOk f ⟨0, true, true⟩ v := fun v => (oneOk_many rfl).2 fun c _ => rfl
  constructor
  · intro _; exact (lang_one _ _ _).2 (h1 _)
  · intro _; exact ⟨[], u, rfl, h1 _, (lang_one _ _ _).2 (h1 _)⟩
theorem lang_star (f : Bool) (u : List Nat) : Lang f [⟨0, true, true⟩] u := (lang_one _ _ _).2 ((oneOk_many rfl).2 fun c _ => rfl)
theorem lang_double (f : Bool) (a b : List GPart) (u : List Nat) : Lang f (a ++ [⟨0, true, true⟩] ++ ([⟨0, true, true⟩] ++ b)) u ↔ Lang f (a ++ ([⟨0, true, true⟩] ++ b)) u := by
  rw [List.append_assoc, ← List.append_assoc [_] [_] b, lang_app, lang_app]
  constructor
  · rintro ⟨x, y, e, h1, h2⟩
    refine ⟨x, y, e, h1, ?_⟩
    rw [lang_app] at h2 ⊢
    obtain ⟨c, d, e, h3, h4⟩ := h2
    exact ⟨c, d, e, (star_star f c).1 h3, h4⟩
  · rintro ⟨x, y, e, h1, h2⟩
    refine ⟨x, y, e, h1, ?_⟩
    rw [lang_app] at h2 ⊢
    obtain ⟨c, d, e, h3, h4⟩ := h2
    exact ⟨c, d, e, (star_star f c).2 h3, h4⟩

def starS : ByteArray := ⟨#[42]⟩
theorem chrs_star : chrs starS = ([42], none) := chrs_byte 42 (by decide)
theorem extract_split (p : ByteArray) (i : Nat) (hi : i ≤ p.size) : p.extract 0 i ++ p.extract i p.size = p := by
  apply ByteArray.ext
  apply Array.ext'
  rw [ByteArray.data_append, Array.toList_append, Lib.extract_data, Lib.extract_data]
  have hl : p.data.toList.length = p.size := rfl
  simp
  rw [List.take_of_length_le (l := List.drop i _) (by simp)]
  exact List.take_append_drop i p.data.toList
theorem extract_size (p : ByteArray) (i j : Nat) (hij : i ≤ j) (hj : j ≤ p.size) : (p.extract i j).size = j - i := by
  rw [ByteArray.size_extract]; omega
theorem byteAt_ext (p : ByteArray) (i j k : Nat) (hj : j ≤ p.size) (hk : i + k < j) : byteAt (p.extract i j) k = byteAt p (i + k) := by
  unfold byteAt
  rw [Lib.extract_data]
  have hl : p.data.toList.length = p.size := rfl
  simp only [List.getD, List.getElem?_take, List.getElem?_drop]
  rw [if_pos (by omega)]

/-- A text that begins with a byte below 128: that character is its first one. -/
theorem chrs_head (d : ByteArray) (c : UInt8) (hd : 0 < d.size) (h0 : byteAt d 0 = c) (hc : c.toNat < 128) : chrs d = (c.toNat :: (chrs (d.extract 1 d.size)).1, (chrs (d.extract 1 d.size)).2.map (1 + ·)) := by
  have e : (⟨#[c]⟩ : ByteArray) ++ d.extract 1 d.size = d := by
    have h1 : d.extract 0 1 = ⟨#[c]⟩ := by
      apply ByteArray.ext
      apply Array.ext'
      rw [Lib.extract_data]
      have hl : d.data.toList.length = d.size := rfl
      unfold byteAt at h0
      cases hx : d.data.toList with
      | nil => rw [hx] at hl; simp at hl; omega
      | cons x r => rw [hx] at h0; simp at h0; subst h0; simp
    rw [← h1]; exact extract_split d 1 hd
  have h := chrs_join ⟨#[c]⟩ (d.extract 1 d.size) (by rw [chrs_byte c hc])
  rw [e, chrs_byte c hc] at h
  exact h

/-- A star more beside a star. -/
theorem match_star (p s : ByteArray) (f : Bool) (i : Nat) (hp : p.size ≤ 200) (hi : i < p.size) (hb : (byteAt p i).toNat = 42) : matchB (p.extract 0 i ++ starS ++ p.extract i p.size) s f = matchB p s f := by
  have hd0 : byteAt (p.extract i p.size) 0 = byteAt p i := by rw [byteAt_ext _ _ _ _ (Nat.le_refl _) (by omega), Nat.add_zero]
  have hds := extract_size p i p.size (by omega) (Nat.le_refl _)
  have has := extract_size p 0 i (by omega) (by omega)
  have hsp := extract_split p i (by omega)
  have hdc := chrs_head (p.extract i p.size) 42 (by omega) (by apply UInt8.toNat_inj.1; rw [hd0, hb]; rfl) (by decide)
  rw [show (42 : UInt8).toNat = 42 from rfl] at hdc
  generalize p.extract 0 i = a at *
  generalize p.extract i p.size = d at *
  rw [Bool.eq_iff_iff, matchB_iff, matchB_iff]
  have hsz : (a ++ starS ++ d).size ≤ 1024 := by
    rw [size_app, size_app, has, hds]
    show i + 1 + _ ≤ _
    omega
  have hz : p.size ≤ 1024 := by omega
  simp only [hsz, hz, true_and]
  subst hsp
  unfold patP
  cases hx : (chrs a).2 with
  | none =>
    have h1 := chrs_join a d hx
    have h2 := chrs_join a starS hx
    rw [chrs_star] at h2
    have h3 := chrs_join (a ++ starS) d (by rw [h2]; rfl)
    rw [h3, h2, h1, hdc]
    simp only [Option.map_eq_none_iff, List.map_append, List.map_cons, List.map_nil, partOf_star]
    refine and_congr_right fun _ => and_congr_right fun _ => ?_
    exact lang_double f _ _ _
  | some k =>
    have hb2 : (byteAt d 0).toNat < 128 := by rw [hd0, hb]; decide
    have h1 := chrs_join_bad a d k hx (by omega) hb2
    have h2 := chrs_join_bad a starS k hx (by decide) (by decide)
    have h3 := chrs_join_bad (a ++ starS) d k (by rw [h2]) (by omega) hb2
    rw [h1, h3]
    simp

theorem lang_self (f : Bool) (l u : List Nat) (h : ∀ c ∈ l, c ≠ 42 ∧ c ≠ 63) : Lang false (l.map partOf) u ↔ u = l := by
  induction l generalizing u with
  | nil => simp [Lang]
  | cons c l ih =>
    have hc := h c (by simp)
    simp only [List.map_cons, partOf_char hc.1 hc.2]
    constructor
    · rintro ⟨a, b, rfl, h1, h2⟩
      obtain ⟨x, rfl, hx⟩ := (oneOk_one rfl).1 h1
      rw [(ih b (fun d hd => h d (by simp [hd]))).1 h2]
      have : c = x := by simpa [standsB] using hx
      rw [this]; rfl
    · rintro rfl
      exact ⟨[c], l, rfl, (oneOk_one rfl).2 ⟨c, rfl, by simp [standsB]⟩, (ih l (fun d hd => h d (by simp [hd]))).2 rfl⟩
theorem stands_fold {p : GPart} {c : Nat} (h : standsB p c false = true) : standsB p c true = true := by
  unfold standsB at h ⊢
  simp only [Bool.false_and, Bool.or_false, Bool.true_and] at h ⊢
  rw [Bool.or_eq_true] at h
  rcases h with h | h
  · rw [h]; rfl
  · rw [h]; simp
theorem lang_fold (ps : List GPart) (u : List Nat) (h : Lang false ps u) : Lang true ps u := by
  induction ps generalizing u with
  | nil => exact h
  | cons p ps ih =>
    obtain ⟨a, b, rfl, h1, h2⟩ := h
    refine ⟨a, b, rfl, ?_, ih b h2⟩
    cases hm : p.many with
    | true => exact (oneOk_many hm).2 fun c hc => stands_fold ((oneOk_many hm).1 h1 c hc)
    | false =>
      obtain ⟨c, rfl, hc⟩ := (oneOk_one hm).1 h1
      exact (oneOk_one hm).2 ⟨c, rfl, stands_fold hc⟩
theorem match_fold {p s : ByteArray} (h : matchB p s false = true) : matchB p s true = true := by
  rw [matchB_iff] at h ⊢
  exact ⟨h.1, h.2.1, h.2.2.1, lang_fold _ _ h.2.2.2⟩

theorem no_signs {s : ByteArray} (h : ∀ j, j < s.size → signB (byteAt s j) = false) : ∀ c ∈ (chrs s).1, c ≠ 42 ∧ c ≠ 63 := by
  intro c hc
  have h1 := chrs_small s s.size 0 c hc
  constructor
  all_goals
    intro e
    subst e
    obtain ⟨j, hj, _, hb⟩ := h1 (by omega)
    have := h j hj
    unfold signB at this
    rw [hb] at this
    simp at this
theorem match_self (s : ByteArray) (f : Bool) (hs : s.size ≤ 200) (h : leadN s = s.size) : matchB s s f = (chrs s).2.isNone := by
  obtain ⟨_, h2, _⟩ := leadN_spec s
  rw [h] at h2
  have hn := no_signs h2
  rw [Bool.eq_iff_iff, matchB_iff, Option.isNone_iff_eq_none]
  refine ⟨fun k => k.2.1, fun k => ⟨by omega, k, k, ?_⟩⟩
  have := (lang_self false (chrs s).1 (chrs s).1 hn).2 rfl
  cases f with
  | false => exact this
  | true => exact lang_fold _ _ this

/-- What begins with a text's characters begins with its bytes. -/
theorem begins_bytes {a s : ByteArray} {r : List Nat} (ha : (chrs a).2 = none) (hs : (chrs s).2 = none) (h : (chrs s).1 = (chrs a).1 ++ r) : a.size ≤ s.size ∧ s.extract 0 a.size = a := by
  have h1 := put_chrs a ha
  have h2 := put_chrs s hs
  rw [h, putAll_app, h1] at h2
  have hl : s.data.toList.length = s.size := rfl
  have hla : a.data.toList.length = a.size := rfl
  have hle : a.size ≤ s.size := by rw [← hl, ← h2, List.length_append]; omega
  refine ⟨hle, ?_⟩
  apply ByteArray.ext
  apply Array.ext'
  rw [Lib.extract_data, ← h2, List.drop_zero, Nat.sub_zero, ← hla, List.take_append_of_le_length (Nat.le_refl _), List.take_length]
theorem match_lead {p s : ByteArray} (h : matchB p s false = true) : (leadS p).size ≤ s.size ∧ s.extract 0 (leadS p).size = leadS p := by
  rw [matchB_iff] at h
  obtain ⟨_, hp, hs, hl⟩ := h
  obtain ⟨k1, k2, k3⟩ := leadN_spec p
  have hsp := extract_split p (leadN p) k1
  have has := extract_size p 0 (leadN p) (by omega) k1
  have hbs := extract_size p (leadN p) p.size k1 (Nat.le_refl _)
  have hab : ∀ j, j < (p.extract 0 (leadN p)).size → signB (byteAt (p.extract 0 (leadN p)) j) = false := fun j hj => by
    rw [has] at hj
    rw [byteAt_ext _ _ _ _ k1 (by omega), Nat.zero_add]
    exact k2 j (by omega)
  have hb0 : 0 < (p.extract (leadN p) p.size).size → (byteAt (p.extract (leadN p) p.size) 0).toNat < 128 := fun h => by
    rw [byteAt_ext _ _ _ _ (Nat.le_refl _) (by omega), Nat.add_zero]
    have := k3 (by omega)
    unfold signB at this
    simp at this
    omega
  have hle : leadS p = p.extract 0 (leadN p) := rfl
  rw [hle]
  generalize p.extract 0 (leadN p) = a at *
  generalize p.extract (leadN p) p.size = d at *
  have ha : (chrs a).2 = none := by
    cases hx : (chrs a).2 with
    | none => rfl
    | some k =>
      by_cases hd : 0 < d.size
      · have := chrs_join_bad a d k hx hd (hb0 hd)
        rw [hsp] at this
        rw [this] at hp
        cases hp
      · have : d = ByteArray.empty := by
          apply ByteArray.ext
          apply Array.eq_empty_of_size_eq_zero
          show d.size = 0
          omega
        rw [this, ByteArray.append_empty] at hsp
        rw [hsp, hp] at hx
        cases hx
  have h1 := chrs_join a d ha
  rw [hsp] at h1
  unfold patP at hl
  rw [h1] at hl
  simp only [List.map_append] at hl
  rw [lang_app] at hl
  obtain ⟨x, y, e, h2, _⟩ := hl
  rw [lang_self false _ _ (no_signs hab)] at h2
  subst h2
  exact begins_bytes ha hs e

theorem lang_least (f : Bool) (l u : List Nat) (h : Lang f (l.map partOf) u) : (l.filter fun c => decide (c ≠ 42)).length ≤ u.length := by
  induction l generalizing u with
  | nil => simp
  | cons c l ih =>
    obtain ⟨a, b, rfl, h1, h2⟩ := h
    have := ih b h2
    by_cases hc : c = 42
    · subst hc
      simp at this ⊢
      omega
    · have hm : (partOf c).many = false := by
        unfold partOf
        rw [if_neg hc]
        split <;> rfl
      obtain ⟨x, rfl, _⟩ := (oneOk_one hm).1 h1
      simp [hc] at this ⊢
      omega
theorem match_least {p s : ByteArray} (h : matchB p s false = true) : leastN p ≤ (chrs s).1.length := by
  rw [matchB_iff] at h
  unfold leastN
  split
  · exact lang_least _ _ _ h.2.2.2
  · exact Nat.zero_le _
theorem match_behind {p s more : ByteArray} (hz : p.size ≤ 200) (h : matchB p s false = true) (hm : (chrs more).2 = none) : matchB (p ++ starS) (s ++ more) false = true := by
  rw [matchB_iff] at h ⊢
  obtain ⟨_, hp, hs, hl⟩ := h
  have h1 := chrs_join p starS hp
  have h2 := chrs_join s more hs
  rw [chrs_star] at h1
  refine ⟨by rw [size_app]; show p.size + 1 ≤ _; omega, by rw [h1]; rfl, by rw [h2, hm]; rfl, ?_⟩
  unfold patP at hl ⊢
  rw [h1, h2]
  simp only [List.map_append, List.map_cons, List.map_nil, partOf_star]
  exact (lang_app _ _ _ _).2 ⟨_, _, rfl, hl, lang_star _ _⟩
theorem match_ahead {p s more : ByteArray} (hz : p.size ≤ 200) (h : matchB p s false = true) (hm : (chrs more).2 = none) : matchB (starS ++ p) (more ++ s) false = true := by
  rw [matchB_iff] at h ⊢
  obtain ⟨_, hp, hs, hl⟩ := h
  have h1 := chrs_join starS p (by rw [chrs_star])
  have h2 := chrs_join more s hm
  rw [chrs_star] at h1
  refine ⟨by rw [size_app]; show 1 + p.size ≤ _; omega, by rw [h1, hp]; rfl, by rw [h2, hs]; rfl, ?_⟩
  unfold patP at hl ⊢
  rw [h1, h2]
  simp only [List.map_append, List.map_cons, List.map_nil, partOf_star]
  exact (lang_app _ _ _ _).2 ⟨_, _, rfl, lang_star _ _, hl⟩
end Go.Proofs.YtakcfgmibijdnaaGreatDoor

/- What items have that patterns want, in plain words. -/
namespace Go.Proofs.YtakcfgmibijdnaaGreatDoor
open Go.RowKit

/-- An item's value, if it has one. -/
def valI (x : It) : ByteArray := if x.has then x.value else ByteArray.empty
/-- Is an item as a pattern wants it? -/
def fitsB (p : It) (f : Bool) (x : It) : Bool := decide (x.name = p.name) && matchB p.value (valI x) f
/-- Have items what patterns want? -/
def wantB (l ps : List It) (f : Bool) : Bool := ps.all fun p => l.any (fitsB p f)
theorem want_comm (a b ps : List It) (f : Bool) : wantB (a ++ b) ps f = wantB (b ++ a) ps f := by
  unfold wantB
  congr 1
  funext p
  rw [List.any_append, List.any_append, Bool.or_comm]
theorem want_nil (l : List It) (f : Bool) : wantB l [] f = true := rfl
theorem want_take {l ps : List It} {f : Bool} (h : wantB l ps f = true) (i : Nat) : wantB l (ps.take i) f = true := by
  unfold wantB at h ⊢
  rw [List.all_eq_true] at h ⊢
  exact fun p hp => h p (List.mem_of_mem_take hp)
theorem want_drop {l ps : List It} {f : Bool} (h : wantB l ps f = true) (i : Nat) : wantB l (ps.drop i) f = true := by
  unfold wantB at h ⊢
  rw [List.all_eq_true] at h ⊢
  exact fun p hp => h p (List.mem_of_mem_drop hp)
theorem want_more {l ps : List It} {f : Bool} (h : wantB l ps f = true) (m : List It) : wantB (l ++ m) ps f = true := by
  unfold wantB at h ⊢
  rw [List.all_eq_true] at h ⊢
  intro p hp
  rw [List.any_append, h p hp]
  rfl
theorem want_no {l ps : List It} {f : Bool} {p : It} (h : p ∈ ps) (h2 : l.any (fitsB p f) = false) : wantB l ps f = false := by
  unfold wantB
  rw [List.all_eq_false]
  exact ⟨p, h, by rw [h2]; decide⟩
theorem want_yes {l ps : List It} {f : Bool} (h : ∀ (j : Nat) (p : It), j < ps.length → ps[j]? = some p → l.any (fitsB p f) = true) : wantB l ps f = true := by
  unfold wantB
  rw [List.all_eq_true]
  intro p hp
  obtain ⟨j, hj, rfl⟩ := List.mem_iff_getElem.1 hp
  exact h j _ hj (List.getElem?_eq_getElem hj)
/-- Are items more than are looked at? -/
def greatI (l : List It) : Bool := decide (300 < l.length) || l.any fun x => decide (200 < x.name.size) || decide (200 < x.value.size)
theorem great_no {l : List It} (h : greatI l = false) : l.length ≤ 300 ∧ ∀ x ∈ l, x.name.size ≤ 200 ∧ x.value.size ≤ 200 := by
  unfold greatI at h
  rw [Bool.or_eq_false_iff, decide_eq_false_iff_not, List.any_eq_false] at h
  refine ⟨by omega, fun x hx => ?_⟩
  have := h.2 x hx
  simp at this
  exact this
theorem great_len {l : List It} (h : 300 < l.length) : greatI l = true := by unfold greatI; rw [decide_eq_true h]; rfl
theorem great_any {l : List It} {x : It} (h : x ∈ l) (h2 : 200 < x.name.size ∨ 200 < x.value.size) : greatI l = true := by
  unfold greatI
  rw [Bool.or_eq_true, List.any_eq_true]
  refine .inr ⟨x, h, ?_⟩
  rcases h2 with h2 | h2
  · rw [decide_eq_true h2]; rfl
  · rw [decide_eq_true h2]; simp
theorem great_not {l : List It} (h : l.length ≤ 300) (h2 : ∀ x ∈ l, x.name.size ≤ 200 ∧ x.value.size ≤ 200) : greatI l = false := by
  unfold greatI
  rw [Bool.or_eq_false_iff, decide_eq_false_iff_not, List.any_eq_false]
  refine ⟨by omega, fun x hx => ?_⟩
  have := h2 x hx
  simp
  exact this
end Go.Proofs.YtakcfgmibijdnaaGreatDoor

/- The code's ints. -/
namespace Go.Proofs.YtakcfgmibijdnaaGreatDoor
open Go.RowKit

theorem info_int : (Tryz.prog.info? 3).map (fun i => (i.zero, i.size, i.bytes)) = some (some (.int .i64 0), 1, 8) := by kernel_rfl
def intV (n : Nat) : Value := .int .i64 (n : Int)
end Go.Proofs.YtakcfgmibijdnaaGreatDoor

/- A loop that writes into a call's own bytes: nothing else turns. -/
namespace Go.Proofs.YtakcfgmibijdnaaGreatDoor
open Go.RowKit

/-- Block g is a row of at least n bytes that may be written. -/
def RowAt (w : World) (g n : Nat) : Prop := ∃ cur, w.heap[g]? = some (.cells cur 5 (0, 0)) ∧ n ≤ cur.size
theorem RowAt.cell {w : World} {g n i : Nat} (h : RowAt w g n) (hi : i < n) : ∃ u, w.cell? ⟨g, i, none⟩ = some u := by
  obtain ⟨cur, hh, hn⟩ := h
  rw [World.cell?, hh]
  simp
  exact ⟨cur[i]'(by omega), by rw [Array.getElem?_eq_getElem (by omega)]⟩
theorem RowAt.frozen {w : World} {g n i : Nat} (h : RowAt w g n) : w.frozen? ⟨g, i, none⟩ = false := by
  obtain ⟨cur, hh, hn⟩ := h
  simp [World.frozen?, hh]
theorem RowAt.store {w : World} {g n i : Nat} (h : RowAt w g n) (u : Value) : RowAt (w.setCell ⟨g, i, none⟩ u) g n := by
  obtain ⟨cur, hh, hn⟩ := h
  refine ⟨cur.setIfInBounds i u, ?_, by simpa using hn⟩
  simp only [World.setCell, Array.getElem?_modify, hh]
  simp
theorem OwnB.rowAt {w : World} {base g cap : Nat} {l : List UInt8} (h : OwnB w base (.slice (some ⟨g, 0, none⟩) l.length cap) l) : RowAt w g l.length := by
  rcases h.2 with ⟨h0, _⟩ | ⟨g', cap', cur, h0, _, hh, h1, _, h2, _⟩
  · cases h0
  · cases h0
    exact ⟨cur, hh, by omega⟩
theorem row_cell {w : World} {base n c i : Nat} {e : TypeId} {p : Option Addr} {xs : List Value} (h : w.ownsRow base e 1 (.slice p n c) n xs) (hi : i < n) : ∃ g, p = some ⟨g, 0, none⟩ ∧ w.cell? ⟨g, i, none⟩ = xs[i]? ∧ n ≤ c ∧ c ≤ maxLen := by
  have h' := h
  rcases h.2 with ⟨e0, e1⟩ | ⟨g, cap, cur, e0, _, _, h1, h2, _⟩
  · omega
  · cases e0
    exact ⟨g, rfl, h'.cellAt i (by omega), h1, h2⟩
theorem grown_refl (w : World) (row : Option Nat) : w.grownBy w row := ⟨rfl, rfl, rfl, Nat.le_refl _, fun _ _ _ => rfl⟩
theorem grown_trans {w w1 w2 : World} {row : Option Nat} (h1 : w.grownBy w1 row) (h2 : w1.grownBy w2 row) : w.grownBy w2 row :=
  ⟨h2.os.trans h1.os, h2.tape.trans h1.tape, h2.output.trans h1.output, Nat.le_trans h1.size h2.size, fun k hk hr => (h2.block k (Nat.lt_of_lt_of_le hk h1.size) hr).trans (h1.block k hk hr)⟩
theorem grown_set (w : World) (a : Addr) (u : Value) : w.grownBy (w.setCell a u) (some a.block) := by
  have hb : Below 0 w (w.setCell a u) := (Below.refl 0 w).setCell (Nat.zero_le _) u
  exact ⟨hb.os, hb.tape, hb.output, by simp [World.setCell], fun k _ hr => Below.heap_setCell w a u k (fun h => hr (by rw [h]))⟩
theorem FaultIs.fill {w w' : World} {g n : Nat} {v : Value} {k i : Int} {u : Value} (h : FaultIs w v k i u) (hr : RowAt w g n) (hg : w.grownBy w' (some g)) : FaultIs w' v k i u := by
  obtain ⟨b, rfl, hb⟩ := h
  obtain ⟨cur, hh, _⟩ := hr
  refine ⟨b, rfl, ?_⟩
  rw [hg.block b (lt_of_block hb) (fun e => by
    cases e
    rw [hb] at hh
    cases hh)]
  exact hb
theorem FaultIs.fill' {w w' : World} {base n c : Nat} {p : Option Addr} {l : List UInt8} {v : Value} {k i : Int} {u : Value} (h : FaultIs w v k i u) (ho : OwnB w base (.slice p n c) l) (hg : w.grownBy w' (Value.slice p n c).ownBlock) : FaultIs w' v k i u := by
  rcases ho.shape with ⟨_, e⟩ | ⟨g, cap, e, _⟩
  · cases e
    obtain ⟨b, rfl, hb⟩ := h
    exact ⟨b, rfl, (hg.block b (lt_of_block hb) (fun e => by cases e)).trans hb⟩
  · cases e
    exact h.fill ho.rowAt hg
theorem row_fill {w w' : World} {B n c k : Nat} {p : Option Addr} {e : TypeId} {size : Nat} {v : Value} {xs : List Value} (h : w.ownsRow B e size v k xs) (hB : ∀ g, (Value.slice p n c).ownBlock = some g → g < B) (hg : w.grownBy w' (Value.slice p n c).ownBlock) : w'.ownsRow B e size v k xs := by
  refine h.kept hg ?_
  cases hv : v.ownBlock with
  | none => exact .inl rfl
  | some b =>
    refine .inr fun e => ?_
    have h1 := (World.ownsRow.lt h b hv).1
    have h2 := hB b e.symm
    omega

/-- What stands while a loop writes into a call's own bytes. -/
def FillRel (w4 : World) (p : Option Addr) (n c : Nat) (wr : World) : Prop := w4.grownBy wr (Value.slice p n c).ownBlock ∧ (0 < n → ∃ g, p = some ⟨g, 0, none⟩ ∧ RowAt wr g n)
theorem FillRel.start {w : World} {base n c : Nat} {p : Option Addr} {l : List UInt8} (h : OwnB w base (.slice p n c) l) (hn : l.length = n) : FillRel w p n c w := by
  refine ⟨grown_refl _ _, fun h0 => ?_⟩
  subst hn
  rcases h.shape with ⟨e, _⟩ | ⟨g, cap, e, _⟩
  · subst e; simp at h0
  · cases e
    exact ⟨g, rfl, h.rowAt⟩
theorem FillRel.cell {w4 wr : World} {n c i : Nat} {p : Option Addr} (h : FillRel w4 p n c wr) (hi : i < n) :
    ∃ g, p = some ⟨g, 0, none⟩ ∧ (∃ u, wr.cell? ⟨g, i, none⟩ = some u) ∧ wr.frozen? ⟨g, i, none⟩ = false ∧ ∀ u, FillRel w4 p n c (wr.setCell ⟨g, i, none⟩ u) := by
  obtain ⟨hg, hr⟩ := h
  obtain ⟨g, rfl, hrow⟩ := hr (by omega)
  exact ⟨g, rfl, hrow.cell hi, hrow.frozen, fun u => ⟨grown_trans hg (grown_set wr ⟨g, i, none⟩ u), fun _ => ⟨g, rfl, hrow.store u⟩⟩⟩
end Go.Proofs.YtakcfgmibijdnaaGreatDoor
