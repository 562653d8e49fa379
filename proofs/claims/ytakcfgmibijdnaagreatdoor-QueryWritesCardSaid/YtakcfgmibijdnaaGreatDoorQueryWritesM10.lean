/- slices.IndexFunc and ContainsFunc of items. -/
import Derived.Test.YtakcfgmibijdnaaGreatDoorQueryWritesM8
import Derived.Test.YtakcfgmibijdnaaGreatDoorQueryWritesM1
import Derived.Test.YtakcfgmibijdnaaGreatDoorQueryWritesM7

namespace Go.Proofs.YtakcfgmibijdnaaGreatDoor
open Go.RowKit

/-- The first place at which a test says yes; -1: none. -/
def findI (P : It → Bool) (l : List It) : Int := match l.findIdx? P with | some i => (i : Int) | none => -1
theorem findI_hit {P : It → Bool} {l : List It} {i : Nat} {x : It} (h : l[i]? = some x) (hx : P x = true) (hall : ∀ (j : Nat) (y : It), j < i → l[j]? = some y → P y = false) : findI P l = i := by
  unfold findI
  have : l.findIdx? P = some i := by
    rw [List.findIdx?_eq_some_iff_getElem]
    obtain ⟨hi, rfl⟩ := List.getElem?_eq_some_iff.1 h
    exact ⟨hi, hx, fun j hj => by rw [hall j _ hj (List.getElem?_eq_getElem (by omega))]; decide⟩
  rw [this]
theorem findI_none {P : It → Bool} {l : List It} (hall : ∀ (j : Nat) (y : It), l[j]? = some y → P y = false) : findI P l = -1 := by
  unfold findI
  have : l.findIdx? P = none := by
    rw [List.findIdx?_eq_none_iff]
    intro x hx
    obtain ⟨i, hi, rfl⟩ := List.mem_iff_getElem.1 hx
    exact hall i _ (List.getElem?_eq_getElem hi)
  rw [this]
theorem ItemsOwn.take {w : World} {a : Option Addr} {l : List It} (h : ItemsOwn w a l) (n : Nat) : ItemsOwn w a (l.take n) := by
  intro i p hp
  refine h i p ?_
  rw [List.getElem?_take] at hp
  split at hp
  · exact hp
  · cases hp
/-- A test that a closure makes of items, in whatever world lies behind w. -/
def TestI (w : World) (f : FuncId) (caps : Array Value) (P : It → Bool) : Prop := ∀ (W : World) (x : It), Below w.heap.size w W → Calls Tryz.prog f (#[.agg #[.string x.name, .string x.value, .bool x.has]] ++ caps) W fun e w' => e = .returned (.bool (P x)) ∧ Below W.heap.size W w'
set_option maxHeartbeats 1600000 in
set_option maxRecDepth 100000 in
theorem items_IndexFunc (pa : Option Addr) (c : Nat) (l : List It) (f : FuncId) (q : Nat) (P : It → Bool) (w : World) (hsl : ItemsOwn w pa l) (hl : l.length ≤ 16777216) (eg : ∀ args w, (callFunc f args).run Tryz.prog w = .ok (.enter f args) w) (hf : TestI w f #[.pointer (some ⟨q, 0, none⟩)] P) :
    Calls Tryz.prog 56 #[.slice pa l.length c, .func (.func f) #[] #[.pointer (some ⟨q, 0, none⟩)]] w fun e w' => e = .returned (.int .i64 (findI P l)) ∧ Below w.heap.size w w' := by
  have hF := Lib.hid hf
  clear hf
  go_enter Tryz.func56, Tryz.ntmps56
  go_wp2_with fail
  go_loopw [8] (fun x wr => ∃ i : Nat, i ≤ l.length ∧ x = .int .i64 i ∧ Below w.heap.size w wr ∧ ∀ (j : Nat) (y : It), j < i → l[j]? = some y → P y = false) (fun x _ => l.length - (intOf x).toNat)
  case atStart => exact ⟨0, Nat.zero_le _, rfl, Below.refl _ _, fun j y h => by omega⟩
  case round =>
    obtain ⟨i, hil, rfl, hbr, hall⟩ := hrel
    have HA := Lib.hid hall
    clear hall
    by_cases hlt : i < l.length
    · obtain ⟨x, hx⟩ : ∃ x, l[i]? = some x := ⟨_, List.getElem?_eq_getElem hlt⟩
      obtain ⟨b, rfl, hb, d0, d1, d2⟩ := (hsl.below hbr) i x hx
      have hhit := fun h => findI_hit hx h HA.out
      have hst : P x = false → ∀ (j : Nat) (y : It), j < i + 1 → l[j]? = some y → P y = false := fun h j y hj hy => by
        by_cases hji : j = i
        · subst hji; rw [hx] at hy; cases hy; exact h
        · exact HA.out j y (by omega) hy
      have HHIT := Lib.hid hhit
      have HST := Lib.hid hst
      have cF := Lib.hid (hF.out wr x hbr)
      obtain ⟨xn, xv, xh⟩ := x
      have hiI : (i : Int) < (l.length : Int) := by omega
      clear hhit hst hx HA hF
      generalize P ⟨xn, xv, xh⟩ = r at *
      go_wp2_with fail
      refine cF.out.mono ?_
      rintro e w2 ⟨rfl, hb2⟩
      have hbr2 := Bt hbr hb2
      cases r
      · have HX := Lib.hid (HST.out rfl)
        go_wp2_with fail
        go_roundw
        case rel => exact ⟨i + 1, by omega, by go_num, hbr2, HX.out⟩
        case measure => simp [intOf]; omega
      · have HX := Lib.hid (HHIT.out rfl)
        go_wp2_with fail
        go_ret
        exact ⟨ret_i64 HX.out.symm, hbr2⟩
    · obtain rfl : i = l.length := by omega
      have hn : findI P l = -1 := findI_none fun j y hy => HA.out j y (List.getElem?_eq_some_iff.1 hy).1 hy
      have HN := Lib.hid hn
      clear hn
      go_wp2_with fail
      go_ret
      exact ⟨ret_i64 HN.out.symm, hbr⟩
theorem findI_any (P : It → Bool) (l : List It) : decide (0 ≤ findI P l) = l.any P := by
  unfold findI
  cases h : l.findIdx? P with
  | none =>
    rw [List.findIdx?_eq_none_iff] at h
    have : l.any P = false := by rw [List.any_eq_false]; intro x hx; rw [h x hx]; decide
    rw [this]; rfl
  | some i =>
    rw [List.findIdx?_eq_some_iff_getElem] at h
    obtain ⟨hi, hx, _⟩ := h
    have : l.any P = true := by rw [List.any_eq_true]; exact ⟨l[i], List.getElem_mem _, hx⟩
    rw [this]
    simp
set_option maxHeartbeats 800000 in
theorem items_ContainsFunc (pa : Option Addr) (c : Nat) (l : List It) (f : FuncId) (q : Nat) (P : It → Bool) (w : World) (hsl : ItemsOwn w pa l) (hl : l.length ≤ 16777216) (eg : ∀ args w, (callFunc f args).run Tryz.prog w = .ok (.enter f args) w) (hf : TestI w f #[.pointer (some ⟨q, 0, none⟩)] P) :
    Calls Tryz.prog 65 #[.slice pa l.length c, .func (.func f) #[] #[.pointer (some ⟨q, 0, none⟩)]] w fun e w' => e = .returned (.bool (l.any P)) ∧ Below w.heap.size w w' := by
  have cI := Lib.hid (items_IndexFunc pa c l f q P w hsl hl eg hf)
  have HA := Lib.hid (findI_any P l)
  generalize findI P l = i at *
  clear hf hsl eg
  go_enter Tryz.func65, Tryz.ntmps65
  go_wp2_with fail
  refine cI.out.mono ?_
  rintro e w2 ⟨rfl, hb2⟩
  go_wp2_with fail
  go_ret
  exact ⟨ret_bool HA.out, hb2⟩
end Go.Proofs.YtakcfgmibijdnaaGreatDoor

/- slices.IndexFunc and ContainsFunc of items that lie anywhere, with a closure of any captures. -/
namespace Go.Proofs.YtakcfgmibijdnaaGreatDoor
open Go.RowKit

theorem ItemsSl.take {w : World} {a : Option Addr} {l : List It} (h : ItemsSl w a l) (n : Nat) : ItemsSl w a (l.take n) := by
  intro i p hp
  refine h i p ?_
  rw [List.getElem?_take] at hp
  split at hp
  · exact hp
  · cases hp
/-- A test that a closure makes of a list's items, in whatever world lies behind w. -/
def TestL (w : World) (f : FuncId) (caps : Array Value) (P : It → Bool) (l : List It) : Prop := ∀ (W : World) (x : It), x ∈ l → Below w.heap.size w W → Calls Tryz.prog f (#[.agg #[.string x.name, .string x.value, .bool x.has]] ++ caps) W fun e w' => e = .returned (.bool (P x)) ∧ Below W.heap.size W w'
set_option maxHeartbeats 1600000 in
set_option maxRecDepth 100000 in
theorem items_IndexFunc2 (pa : Option Addr) (c : Nat) (l : List It) (f : FuncId) (caps : Array Value) (P : It → Bool) (w : World) (hsl : ItemsSl w pa l) (hl : l.length ≤ 16777216) (eg : ∀ args w, (callFunc f args).run Tryz.prog w = .ok (.enter f args) w) (hf : TestL w f caps P l) :
    Calls Tryz.prog 56 #[.slice pa l.length c, .func (.func f) #[] caps] w fun e w' => e = .returned (.int .i64 (findI P l)) ∧ Below w.heap.size w w' := by
  have hF := Lib.hid hf
  clear hf
  go_enter Tryz.func56, Tryz.ntmps56
  go_wp2_with fail
  go_loopw [8] (fun x wr => ∃ i : Nat, i ≤ l.length ∧ x = .int .i64 i ∧ Below w.heap.size w wr ∧ ∀ (j : Nat) (y : It), j < i → l[j]? = some y → P y = false) (fun x _ => l.length - (intOf x).toNat)
  case atStart => exact ⟨0, Nat.zero_le _, rfl, Below.refl _ _, fun j y h => by omega⟩
  case round =>
    obtain ⟨i, hil, rfl, hbr, hall⟩ := hrel
    have HA := Lib.hid hall
    clear hall
    by_cases hlt : i < l.length
    · obtain ⟨x, hx⟩ : ∃ x, l[i]? = some x := ⟨_, List.getElem?_eq_getElem hlt⟩
      obtain ⟨b, off, rfl, hb, d0, d1, d2⟩ := (hsl.below hbr) i x hx
      have hhit := fun h => findI_hit hx h HA.out
      have hst : P x = false → ∀ (j : Nat) (y : It), j < i + 1 → l[j]? = some y → P y = false := fun h j y hj hy => by
        by_cases hji : j = i
        · subst hji; rw [hx] at hy; cases hy; exact h
        · exact HA.out j y (by omega) hy
      have HHIT := Lib.hid hhit
      have HST := Lib.hid hst
      have cF := Lib.hid (hF.out wr x (List.mem_of_getElem? hx) hbr)
      obtain ⟨xn, xv, xh⟩ := x
      have hiI : (i : Int) < (l.length : Int) := by omega
      clear hhit hst hx HA hF
      generalize P ⟨xn, xv, xh⟩ = r at *
      go_wp2_with fail
      refine cF.out.mono ?_
      rintro e w2 ⟨rfl, hb2⟩
      have hbr2 := Bt hbr hb2
      cases r
      · have HX := Lib.hid (HST.out rfl)
        go_wp2_with fail
        go_roundw
        case rel => exact ⟨i + 1, by omega, by go_num, hbr2, HX.out⟩
        case measure => simp [intOf]; omega
      · have HX := Lib.hid (HHIT.out rfl)
        go_wp2_with fail
        go_ret
        exact ⟨ret_i64 HX.out.symm, hbr2⟩
    · obtain rfl : i = l.length := by omega
      have hn : findI P l = -1 := findI_none fun j y hy => HA.out j y (List.getElem?_eq_some_iff.1 hy).1 hy
      have HN := Lib.hid hn
      clear hn
      go_wp2_with fail
      go_ret
      exact ⟨ret_i64 HN.out.symm, hbr⟩
set_option maxHeartbeats 800000 in
theorem items_ContainsFunc2 (pa : Option Addr) (c : Nat) (l : List It) (f : FuncId) (caps : Array Value) (P : It → Bool) (w : World) (hsl : ItemsSl w pa l) (hl : l.length ≤ 16777216) (eg : ∀ args w, (callFunc f args).run Tryz.prog w = .ok (.enter f args) w) (hf : TestL w f caps P l) :
    Calls Tryz.prog 65 #[.slice pa l.length c, .func (.func f) #[] caps] w fun e w' => e = .returned (.bool (l.any P)) ∧ Below w.heap.size w w' := by
  have cI := Lib.hid (items_IndexFunc2 pa c l f caps P w hsl hl eg hf)
  have HA := Lib.hid (findI_any P l)
  generalize findI P l = i at *
  clear hf hsl eg
  go_enter Tryz.func65, Tryz.ntmps65
  go_wp2_with fail
  refine cI.out.mono ?_
  rintro e w2 ⟨rfl, hb2⟩
  go_wp2_with fail
  go_ret
  exact ⟨ret_bool HA.out, hb2⟩
end Go.Proofs.YtakcfgmibijdnaaGreatDoor

/- Plain: the language of a pattern's parts, and the states that are reached, step by step. -/
namespace Go.Proofs.YtakcfgmibijdnaaGreatDoor

/-- A part of a pattern. -/
structure GPart where
  char : Nat
  wild : Bool
  many : Bool
def smallC (c : Nat) : Nat := if 65 ≤ c ∧ c ≤ 90 then c + 32 else c
def standsB (p : GPart) (c : Nat) (f : Bool) : Bool := p.wild || (decide (p.char = c) || (f && decide (smallC p.char = smallC c)))
def oneOk (f : Bool) (p : GPart) (u : List Nat) : Prop := if p.many = true then ∀ c ∈ u, standsB p c f = true else ∃ c, u = [c] ∧ standsB p c f = true
/-- The language of parts. -/
def Lang (f : Bool) : List GPart → List Nat → Prop
  | [], u => u = []
  | p :: ps, u => ∃ a b, u = a ++ b ∧ oneOk f p a ∧ Lang f ps b

theorem oneOk_many {f : Bool} {p : GPart} {u : List Nat} (h : p.many = true) : oneOk f p u ↔ ∀ c ∈ u, standsB p c f = true := by unfold oneOk; rw [if_pos h]
theorem oneOk_one {f : Bool} {p : GPart} {u : List Nat} (h : p.many = false) : oneOk f p u ↔ ∃ c, u = [c] ∧ standsB p c f = true := by unfold oneOk; rw [if_neg (by simp [h])]

theorem lang_app (f : Bool) (ps qs : List GPart) (u : List Nat) : Lang f (ps ++ qs) u ↔ ∃ a b, u = a ++ b ∧ Lang f ps a ∧ Lang f qs b := by
  induction ps generalizing u with
  | nil =>
    constructor
    · intro h; exact ⟨[], u, rfl, rfl, h⟩
    · rintro ⟨a, b, rfl, ha, hb⟩
      obtain rfl : a = [] := ha
      exact hb
  | cons p ps ih =>
    constructor
    · rintro ⟨a, b, rfl, h1, h2⟩
      obtain ⟨c, d, rfl, h3, h4⟩ := (ih b).1 h2
      exact ⟨a ++ c, d, by rw [List.append_assoc], ⟨a, c, rfl, h1, h3⟩, h4⟩
    · rintro ⟨a, b, rfl, ⟨c, d, rfl, h1, h3⟩, h4⟩
      exact ⟨c, d ++ b, by rw [List.append_assoc], h1, (ih _).2 ⟨d, b, rfl, h3, h4⟩⟩
theorem lang_one (f : Bool) (p : GPart) (u : List Nat) : Lang f [p] u ↔ oneOk f p u := by
  constructor
  · rintro ⟨a, b, rfl, h, hb⟩
    obtain rfl : b = [] := hb
    simpa using h
  · intro h; exact ⟨u, [], by simp, h, rfl⟩

/-- State i is reached by characters: the parts ahead of it stand for their beginning, and part i, if it may stand for many, for the rest. -/
def Reached (f : Bool) (ps : List GPart) (u : List Nat) (i : Nat) : Prop :=
  ∃ a b, u = a ++ b ∧ Lang f (ps.take i) a ∧ (b = [] ∨ ∃ p, ps[i]? = some p ∧ p.many = true ∧ ∀ c ∈ b, standsB p c f = true)

theorem take_one {ps : List GPart} {i : Nat} {p : GPart} (h : ps[i]? = some p) : ps.take (i + 1) = ps.take i ++ [p] := by
  obtain ⟨hi, rfl⟩ := List.getElem?_eq_some_iff.1 h
  exact List.take_succ_eq_append_getElem hi

theorem reached_all (f : Bool) (ps : List GPart) (u : List Nat) : Reached f ps u ps.length ↔ Lang f ps u := by
  constructor
  · rintro ⟨a, b, rfl, h, hb⟩
    rw [List.take_length] at h
    rcases hb with rfl | ⟨p, hp, _⟩
    · simpa using h
    · simp at hp
  · intro h; exact ⟨u, [], by simp, by rw [List.take_length]; exact h, .inl rfl⟩

theorem reached_nil_zero (f : Bool) (ps : List GPart) : Reached f ps [] 0 := ⟨[], [], rfl, by simp [Lang], .inl rfl⟩
theorem reached_nil_succ {f : Bool} {ps : List GPart} {i : Nat} {p : GPart} (h : ps[i]? = some p) : Reached f ps [] (i + 1) ↔ (Reached f ps [] i ∧ p.many = true) := by
  constructor
  · rintro ⟨a, b, hab, h1, _⟩
    obtain ⟨rfl, rfl⟩ : a = [] ∧ b = [] := by simpa [eq_comm] using hab
    rw [take_one h, lang_app] at h1
    obtain ⟨c, d, hcd, h2, h3⟩ := h1
    obtain ⟨rfl, rfl⟩ : c = [] ∧ d = [] := by simpa [eq_comm] using hcd
    rw [lang_one] at h3
    cases hm : p.many with
    | true => exact ⟨⟨[], [], rfl, h2, .inl rfl⟩, rfl⟩
    | false =>
      obtain ⟨c, hc, _⟩ := (oneOk_one hm).1 h3
      cases hc
  · rintro ⟨⟨a, b, hab, h1, _⟩, hm⟩
    obtain ⟨rfl, rfl⟩ : a = [] ∧ b = [] := by simpa [eq_comm] using hab
    refine ⟨[], [], rfl, ?_, .inl rfl⟩
    rw [take_one h, lang_app]
    exact ⟨[], [], rfl, h1, (lang_one _ _ _).2 ((oneOk_many hm).2 fun c hc => by cases hc)⟩

/-- What a step reaches by itself. -/
def Stepped (f : Bool) (ps : List GPart) (u : List Nat) (c : Nat) (i : Nat) : Prop :=
  (∃ p, ps[i]? = some p ∧ Reached f ps u i ∧ standsB p c f = true ∧ p.many = true) ∨ (∃ j p, i = j + 1 ∧ ps[j]? = some p ∧ Reached f ps u j ∧ standsB p c f = true ∧ p.many = false)

theorem reached_snoc_of {f : Bool} {ps : List GPart} {u : List Nat} {c i : Nat} (h : Stepped f ps u c i) : Reached f ps (u ++ [c]) i := by
  rcases h with ⟨p, hp, ⟨a, b, rfl, h1, hb⟩, hs, hm⟩ | ⟨j, p, rfl, hp, ⟨a, b, rfl, h1, hb⟩, hs, hm⟩
  · refine ⟨a, b ++ [c], by rw [List.append_assoc], h1, .inr ⟨p, hp, hm, fun x hx => ?_⟩⟩
    rcases List.mem_append.1 hx with hx | hx
    · rcases hb with rfl | ⟨q, hq, _, h2⟩
      · cases hx
      · rw [hp] at hq; cases hq
        exact h2 x hx
    · simp at hx; subst hx; exact hs
  · obtain rfl : b = [] := by
      rcases hb with h | ⟨q, hq, h2, _⟩
      · exact h
      · rw [hp] at hq; cases hq
        rw [hm] at h2; cases h2
    refine ⟨a ++ [c], [], by simp, ?_, .inl rfl⟩
    rw [take_one hp, lang_app]
    exact ⟨a, [c], rfl, h1, (lang_one _ _ _).2 ((oneOk_one hm).2 ⟨c, rfl, hs⟩)⟩
theorem reached_skip {f : Bool} {ps : List GPart} {u : List Nat} {i : Nat} {p : GPart} (hp : ps[i]? = some p) (hm : p.many = true) (h : Reached f ps u i) : Reached f ps u (i + 1) := by
  obtain ⟨a, b, rfl, h1, hb⟩ := h
  refine ⟨a ++ b, [], by simp, ?_, .inl rfl⟩
  rw [take_one hp, lang_app]
  refine ⟨a, b, rfl, h1, (lang_one _ _ _).2 ((oneOk_many hm).2 fun x hx => ?_)⟩
  rcases hb with rfl | ⟨q, hq, _, h2⟩
  · cases hx
  · rw [hp] at hq; cases hq
    exact h2 x hx
theorem snoc_split {u a b : List Nat} {c : Nat} (h : u ++ [c] = a ++ b) (hb : b ≠ []) : ∃ b0, b = b0 ++ [c] ∧ u = a ++ b0 := by
  obtain ⟨b0, x, rfl⟩ : ∃ b0 x, b = b0 ++ [x] := ⟨b.dropLast, b.getLast hb, (List.dropLast_concat_getLast hb).symm⟩
  rw [← List.append_assoc] at h
  obtain ⟨h1, h2⟩ := List.append_inj' h rfl
  cases h2
  exact ⟨b0, rfl, h1⟩
theorem reached_snoc {f : Bool} {ps : List GPart} {u : List Nat} {c i : Nat} (hi : i ≤ ps.length) (h : Reached f ps (u ++ [c]) i) :
    Stepped f ps u c i ∨ ∃ j p, i = j + 1 ∧ ps[j]? = some p ∧ p.many = true ∧ Reached f ps (u ++ [c]) j := by
  obtain ⟨a, b, hab, h1, hb⟩ := h
  by_cases hbn : b = []
  · subst hbn
    rw [List.append_nil] at hab
    subst hab
    cases i with
    | zero =>
      rw [List.take_zero] at h1
      exact absurd h1 (by simp [Lang])
    | succ j =>
      have hp : ps[j]? = some (ps[j]'(by omega)) := List.getElem?_eq_getElem (by omega)
      rw [take_one hp, lang_app] at h1
      obtain ⟨a', b', hab, h2, h3⟩ := h1
      rw [lang_one] at h3
      cases hm : (ps[j]'(by omega)).many with
      | true => exact .inr ⟨j, _, rfl, hp, hm, a', b', hab, h2, .inr ⟨_, hp, hm, (oneOk_many hm).1 h3⟩⟩
      | false =>
        obtain ⟨x, rfl, hs⟩ := (oneOk_one hm).1 h3
        obtain ⟨rfl, h4⟩ := List.append_inj' hab rfl
        cases h4
        exact .inl (.inr ⟨j, _, rfl, hp, ⟨u, [], by simp, h2, .inl rfl⟩, hs, hm⟩)
  · rcases hb with hb | ⟨p, hp, hm, hs⟩
    · exact absurd hb hbn
    · obtain ⟨b0, rfl, rfl⟩ := snoc_split hab hbn
      exact .inl (.inl ⟨p, hp, ⟨a, b0, rfl, h1, .inr ⟨p, hp, hm, fun x hx => hs x (by simp [hx])⟩⟩, hs c (by simp), hm⟩)
theorem reached_snoc_zero (f : Bool) (ps : List GPart) (u : List Nat) (c : Nat) : Reached f ps (u ++ [c]) 0 ↔ Stepped f ps u c 0 := by
  constructor
  · intro h
    rcases reached_snoc (Nat.zero_le _) h with h | ⟨j, p, e, _⟩
    · exact h
    · cases e
  · exact reached_snoc_of
theorem reached_snoc_succ {f : Bool} {ps : List GPart} {u : List Nat} {c i : Nat} {p : GPart} (hp : ps[i]? = some p) : Reached f ps (u ++ [c]) (i + 1) ↔ (Stepped f ps u c (i + 1) ∨ (Reached f ps (u ++ [c]) i ∧ p.many = true)) := by
  have hi : i < ps.length := (List.getElem?_eq_some_iff.1 hp).1
  constructor
  · intro h
    rcases reached_snoc (by omega) h with h | ⟨j, q, e, hq, hm, h⟩
    · exact .inl h
    · obtain rfl : i = j := by omega
      rw [hp] at hq; cases hq
      exact .inr ⟨h, hm⟩
  · rintro (h | ⟨h, hm⟩)
    · exact reached_snoc_of h
    · exact reached_skip hp hm h
end Go.Proofs.YtakcfgmibijdnaaGreatDoor

/- Plain: whether characters are in the language of parts, as a function; the parts of a pattern. -/
namespace Go.Proofs.YtakcfgmibijdnaaGreatDoor

def starB (g : List Nat → Bool) (s : Nat → Bool) : List Nat → Bool
  | [] => g []
  | c :: v => g (c :: v) || (s c && starB g s v)
def oneB (g : List Nat → Bool) (s : Nat → Bool) : List Nat → Bool
  | [] => false
  | c :: v => s c && g v
/-- Are characters in the language of parts? -/
def langB (f : Bool) : List GPart → List Nat → Bool
  | [] => fun u => u.isEmpty
  | p :: ps => if p.many = true then starB (langB f ps) (standsB p · f) else oneB (langB f ps) (standsB p · f)

theorem starB_iff (g : List Nat → Bool) (s : Nat → Bool) (u : List Nat) : starB g s u = true ↔ ∃ a b, u = a ++ b ∧ (∀ c ∈ a, s c = true) ∧ g b = true := by
  induction u with
  | nil =>
    unfold starB
    constructor
    · intro h; exact ⟨[], [], rfl, (fun c hc => by cases hc), h⟩
    · rintro ⟨a, b, hab, _, hb⟩
      obtain ⟨rfl, rfl⟩ : a = [] ∧ b = [] := by simpa [eq_comm] using hab
      exact hb
  | cons x u ih =>
    unfold starB
    rw [Bool.or_eq_true, Bool.and_eq_true, ih]
    constructor
    · rintro (h | ⟨h1, a, b, rfl, h2, h3⟩)
      · exact ⟨[], x :: u, rfl, (fun c hc => by cases hc), h⟩
      · refine ⟨x :: a, b, rfl, fun c hc => ?_, h3⟩
        rcases List.mem_cons.1 hc with rfl | hc
        · exact h1
        · exact h2 c hc
    · rintro ⟨a, b, hab, h2, h3⟩
      cases a with
      | nil => simp at hab; subst hab; exact .inl h3
      | cons y a =>
        simp at hab
        obtain ⟨rfl, rfl⟩ := hab
        exact .inr ⟨h2 x (by simp), a, b, rfl, fun c hc => h2 c (by simp [hc]), h3⟩
theorem langB_iff (f : Bool) (ps : List GPart) (u : List Nat) : langB f ps u = true ↔ Lang f ps u := by
  induction ps generalizing u with
  | nil => simp [langB, Lang]
  | cons p ps ih =>
    unfold langB
    cases hm : p.many with
    | true =>
      rw [if_pos rfl, starB_iff]
      constructor
      · rintro ⟨a, b, rfl, h1, h2⟩
        exact ⟨a, b, rfl, (oneOk_many hm).2 h1, (ih b).1 h2⟩
      · rintro ⟨a, b, rfl, h1, h2⟩
        exact ⟨a, b, rfl, (oneOk_many hm).1 h1, (ih b).2 h2⟩
    | false =>
      rw [if_neg (by simp)]
      cases u with
      | nil =>
        simp only [oneB, Bool.false_eq_true, false_iff]
        rintro ⟨a, b, hab, h1, _⟩
        obtain ⟨c, rfl, _⟩ := (oneOk_one hm).1 h1
        simp at hab
      | cons x u =>
        simp only [oneB, Bool.and_eq_true, ih]
        constructor
        · rintro ⟨h1, h2⟩
          exact ⟨[x], u, rfl, (oneOk_one hm).2 ⟨x, rfl, h1⟩, h2⟩
        · rintro ⟨a, b, hab, h1, h2⟩
          obtain ⟨c, rfl, hs⟩ := (oneOk_one hm).1 h1
          simp at hab
          obtain ⟨rfl, rfl⟩ := hab
          exact ⟨hs, h2⟩

/-- The part that a character of a pattern stands for. -/
def partOf (c : Nat) : GPart := if c = 42 then ⟨0, true, true⟩ else if c = 63 then ⟨0, true, false⟩ else ⟨c, false, false⟩
theorem partOf_star : partOf 42 = ⟨0, true, true⟩ := rfl
theorem partOf_one : partOf 63 = ⟨0, true, false⟩ := rfl
theorem partOf_char {c : Nat} (h1 : c ≠ 42) (h2 : c ≠ 63) : partOf c = ⟨c, false, false⟩ := by unfold partOf; rw [if_neg h1, if_neg h2]
theorem stands_wild (c : Nat) (m f : Bool) (x : Nat) : standsB ⟨x, true, m⟩ c f = true := rfl

/-- One row of the reference's table. -/
theorem langB_many (f : Bool) (ps : List GPart) (p : GPart) (hm : p.many = true) : langB f (p :: ps) = starB (langB f ps) (standsB p · f) := by
  rw [langB, if_pos hm]
theorem langB_single (f : Bool) (ps : List GPart) (p : GPart) (hm : p.many = false) : langB f (p :: ps) = oneB (langB f ps) (standsB p · f) := by
  rw [langB, if_neg (by simp [hm])]
theorem langB_star_end (f : Bool) (ps : List GPart) (p : GPart) (hm : p.many = true) : langB f (p :: ps) [] = langB f ps [] := by
  rw [langB_many f ps p hm]; rfl
theorem langB_star_cons (f : Bool) (ps : List GPart) (p : GPart) (hm : p.many = true) (c : Nat) (u : List Nat) : langB f (p :: ps) (c :: u) = (langB f ps (c :: u) || (standsB p c f && langB f (p :: ps) u)) := by
  rw [langB_many f ps p hm]; rfl
theorem langB_one_end (f : Bool) (ps : List GPart) (p : GPart) (hm : p.many = false) : langB f (p :: ps) [] = false := by
  rw [langB_single f ps p hm]; rfl
theorem langB_one_cons (f : Bool) (ps : List GPart) (p : GPart) (hm : p.many = false) (c : Nat) (u : List Nat) : langB f (p :: ps) (c :: u) = (standsB p c f && langB f ps u) := by
  rw [langB_single f ps p hm]; rfl
end Go.Proofs.YtakcfgmibijdnaaGreatDoor

/- Plain facts: the reference's way to a character (its bytes are made, and held against what stands there) is Go's decoder's. -/
namespace Go.Proofs.YtakcfgmibijdnaaGreatDoor

/-- A character's bytes. -/
def putN (n : Nat) : List Nat :=
  if n < 128 then [n] else if n < 2048 then [192 + n / 64, 128 + n % 64] else if n < 65536 then [224 + n / 4096, 128 + n / 64 % 64, 128 + n % 64]
  else [240 + n / 262144, 128 + n / 4096 % 64, 128 + n / 64 % 64, 128 + n % 64]
/-- The number that so many bytes would tell. -/
def guessZ (k b0 b1 b2 b3 : Int) : Int :=
  if k = 1 then b0 else if k = 2 then 64 * (b0 - 192) + b1 - 128 else if k = 3 then 64 * (64 * (b0 - 224) + b1 - 128) + b2 - 128 else 64 * (64 * (64 * (b0 - 240) + b1 - 128) + b2 - 128) + b3 - 128
def rightZ (n : Int) : Prop := 0 ≤ n ∧ n < 1114112 ∧ ¬ (55296 ≤ n ∧ n < 57344)
def firstN (k b0 b1 b2 b3 : Nat) : List Nat := [b0, b1, b2, b3].take k

theorem guess1 (b0 b1 b2 b3 : Int) : guessZ 1 b0 b1 b2 b3 = b0 := by simp [guessZ]
theorem guess2 (b0 b1 b2 b3 : Int) : guessZ 2 b0 b1 b2 b3 = 64 * (b0 - 192) + b1 - 128 := by simp [guessZ]
theorem guess3 (b0 b1 b2 b3 : Int) : guessZ 3 b0 b1 b2 b3 = 64 * (64 * (b0 - 224) + b1 - 128) + b2 - 128 := by simp [guessZ]
theorem guess4 (b0 b1 b2 b3 : Int) : guessZ 4 b0 b1 b2 b3 = 64 * (64 * (64 * (b0 - 240) + b1 - 128) + b2 - 128) + b3 - 128 := by simp [guessZ]

theorem hit_dec {n k b0 b1 b2 b3 : Nat} (hk1 : 1 ≤ k) (hk4 : k ≤ 4) (hkn : k ≤ n) (h0 : b0 < 256) (h1 : b1 < 256) (h2 : b2 < 256) (_ : b3 < 256) (hr : rightZ (guessZ k b0 b1 b2 b3))
    (hp : putN (guessZ k b0 b1 b2 b3).toNat = firstN k b0 b1 b2 b3) : Lib.decodeN n b0 b1 b2 b3 = ((guessZ k b0 b1 b2 b3).toNat, k) ∧ ((guessZ k b0 b1 b2 b3).toNat, k) ≠ (65533, 1) := by
  unfold rightZ at hr
  obtain ⟨N, hN⟩ := Int.eq_ofNat_of_zero_le hr.1
  rw [hN] at hr hp ⊢
  rw [Int.toNat_natCast] at hp ⊢
  have hc : k = 1 ∨ k = 2 ∨ k = 3 ∨ k = 4 := by omega
  rcases hc with rfl | rfl | rfl | rfl
  · rw [show ((1 : Nat) : Int) = 1 from rfl, guess1] at hN
    unfold putN firstN at hp
    repeat' split at hp
    all_goals simp at hp
    refine ⟨?_, by simp; omega⟩
    unfold Lib.decodeN
    rw [if_pos (by omega)]
    simp; omega
  · rw [show ((2 : Nat) : Int) = 2 from rfl, guess2] at hN
    unfold putN firstN at hp
    repeat' split at hp
    all_goals simp at hp
    refine ⟨?_, by simp⟩
    unfold Lib.decodeN
    rw [if_neg (by omega), if_pos (by omega), if_pos (by omega)]
    simp; omega
  · rw [show ((3 : Nat) : Int) = 3 from rfl, guess3] at hN
    unfold putN firstN at hp
    repeat' split at hp
    all_goals simp at hp
    refine ⟨?_, by simp⟩
    unfold Lib.decodeN
    rw [if_neg (by omega), if_neg (by omega), if_pos (by omega), if_pos (by omega)]
    simp; omega
  · rw [show ((4 : Nat) : Int) = 4 from rfl, guess4] at hN
    unfold putN firstN at hp
    repeat' split at hp
    all_goals simp at hp
    refine ⟨?_, by simp⟩
    unfold Lib.decodeN
    rw [if_neg (by omega), if_neg (by omega), if_neg (by omega), if_pos (by omega), if_pos (by omega)]
    simp; omega

theorem dec_hit {n b0 b1 b2 b3 : Nat} (hn : 0 < n) (h0 : b0 < 256) (h1 : b1 < 256) (h2 : b2 < 256) (_ : b3 < 256) (ho : Lib.decodeN n b0 b1 b2 b3 ≠ (65533, 1)) :
    ∃ k, 1 ≤ k ∧ k ≤ 4 ∧ k ≤ n ∧ rightZ (guessZ k b0 b1 b2 b3) ∧ putN (guessZ k b0 b1 b2 b3).toNat = firstN k b0 b1 b2 b3 := by
  unfold Lib.decodeN at ho
  repeat' split at ho
  all_goals first | exact absurd rfl ho | skip
  · refine ⟨1, by omega, by omega, by omega, ?_, ?_⟩
    all_goals rw [show ((1 : Nat) : Int) = 1 from rfl, guess1]
    · unfold rightZ; omega
    · rw [Int.toNat_natCast]; unfold putN firstN
      rw [if_pos (by omega)]; rfl
  · refine ⟨2, by omega, by omega, by omega, ?_, ?_⟩
    all_goals rw [show ((2 : Nat) : Int) = 2 from rfl, guess2]
    · unfold rightZ; omega
    · unfold putN firstN
      rw [if_neg (by omega), if_pos (by omega)]
      simp; omega
  · refine ⟨3, by omega, by omega, by omega, ?_, ?_⟩
    all_goals rw [show ((3 : Nat) : Int) = 3 from rfl, guess3]
    · unfold rightZ; omega
    · unfold putN firstN
      rw [if_neg (by omega), if_neg (by omega), if_pos (by omega)]
      simp; omega
  · refine ⟨4, by omega, by omega, by omega, ?_, ?_⟩
    all_goals rw [show ((4 : Nat) : Int) = 4 from rfl, guess4]
    · unfold rightZ; omega
    · unfold putN firstN
      rw [if_neg (by omega), if_neg (by omega), if_neg (by omega)]
      simp; omega
end Go.Proofs.YtakcfgmibijdnaaGreatDoor
