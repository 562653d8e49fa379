/- slices.IndexFunc and ContainsFunc of items that lie anywhere, with a closure of any captures. -/
import Derived.Test.YtibhohpamnpkcaaGreatDoorRouteOrderM27
import Derived.Test.YtibhohpamnpkcaaGreatDoorRouteOrderM16
import Derived.Test.YtibhohpamnpkcaaGreatDoorRouteOrderM21
import Derived.Test.YtibhohpamnpkcaaGreatDoorRouteOrderM26
import Derived.Test.YtibhohpamnpkcaaGreatDoorRouteOrderM10
import Derived.Test.YtibhohpamnpkcaaGreatDoorRouteOrderM19
import Derived.Test.YtibhohpamnpkcaaGreatDoorRouteOrderM22
import Derived.Laws.StructEq
import Derived.Deep.QuietTactic
import Derived.BigQuiet

namespace Go.Proofs.YtibhohpamnpkcaaGreatDoor
open Go.RowKit

theorem ItemsSl.take {w : World} {a : Option Addr} {l : List It} (h : ItemsSl w a l) (n : Nat) : ItemsSl w a (l.take n) := by
  intro i p hp
  refine h i p ?_
  rw [List.getElem?_take] at hp
  split at hp
  · exact hp
  · cases hp
/-- A test that a closure makes of a list's items, in whatever world lies behind w. -/
def TestL (w : World) (f : FuncId) (caps : Array Value) (P : It → Bool) (l : List It) : Prop := ∀ (W : World) (x : It), x ∈ l → Below w.heap.size w W → Calls Tryz.prog f (#[.agg #[.string x.name, .string x.value, .bool x.has]] ++ caps) W fun e w' => e = .returned (.bool (P x)) ∧ Below W.heap.size W w'
set_option maxHeartbeats 1600000 in
set_option maxRecDepth 100000 in
theorem items_IndexFunc2 (pa : Option Addr) (c : Nat) (l : List It) (f : FuncId) (caps : Array Value) (P : It → Bool) (w : World) (hsl : ItemsSl w pa l) (hl : l.length ≤ 16777216) (eg : ∀ args w, (callFunc f args).run Tryz.prog w = .ok (.enter f args) w) (hf : TestL w f caps P l) :
    Calls Tryz.prog 99 #[.slice pa l.length c, .func (.func f) #[] caps] w fun e w' => e = .returned (.int .i64 (findI P l)) ∧ Below w.heap.size w w' := by
  have hF := Lib.hid hf
  clear hf
  go_enter Tryz.func99, Tryz.ntmps99
  go_wp2_with fail
  go_loopw [8] (fun x wr => ∃ i : Nat, i ≤ l.length ∧ x = .int .i64 i ∧ Below w.heap.size w wr ∧ ∀ (j : Nat) (y : It), j < i → l[j]? = some y → P y = false) (fun x _ => l.length - (intOf x).toNat)
  case atStart => exact ⟨0, Nat.zero_le _, rfl, Below.refl _ _, fun j y h => by omega⟩
  case round =>
    obtain ⟨i, hil, rfl, hbr, hall⟩ := hrel
    have HA := Lib.hid hall
    clear hall
    by_cases hlt : i < l.length
    · obtain ⟨x, hx⟩ : ∃ x, l[i]? = some x := ⟨_, List.getElem?_eq_getElem hlt⟩
      obtain ⟨b, off, rfl, hb, d0, d1, d2⟩ := (hsl.below hbr) i x hx
      have hhit := fun h => findI_hit hx h HA.out
      have hst : P x = false → ∀ (j : Nat) (y : It), j < i + 1 → l[j]? = some y → P y = false := fun h j y hj hy => by
        by_cases hji : j = i
        · subst hji; rw [hx] at hy; cases hy; exact h
        · exact HA.out j y (by omega) hy
      have HHIT := Lib.hid hhit
      have HST := Lib.hid hst
      have cF := Lib.hid (hF.out wr x (List.mem_of_getElem? hx) hbr)
      obtain ⟨xn, xv, xh⟩ := x
      have hiI : (i : Int) < (l.length : Int) := by omega
      clear hhit hst hx HA hF
      generalize P ⟨xn, xv, xh⟩ = r at *
      go_wp2_with fail
      refine cF.out.mono ?_
      rintro e w2 ⟨rfl, hb2⟩
      have hbr2 := Bt hbr hb2
      cases r
      · have HX := Lib.hid (HST.out rfl)
        go_wp2_with fail
        go_roundw
        case rel => exact ⟨i + 1, by omega, by go_num, hbr2, HX.out⟩
        case measure => simp [intOf]; omega
      · have HX := Lib.hid (HHIT.out rfl)
        go_wp2_with fail
        go_ret
        exact ⟨ret_i64 HX.out.symm, hbr2⟩
    · obtain rfl : i = l.length := by omega
      have hn : findI P l = -1 := findI_none fun j y hy => HA.out j y (List.getElem?_eq_some_iff.1 hy).1 hy
      have HN := Lib.hid hn
      clear hn
      go_wp2_with fail
      go_ret
      exact ⟨ret_i64 HN.out.symm, hbr⟩
set_option maxHeartbeats 800000 in
theorem items_ContainsFunc2 (pa : Option Addr) (c : Nat) (l : List It) (f : FuncId) (caps : Array Value) (P : It → Bool) (w : World) (hsl : ItemsSl w pa l) (hl : l.length ≤ 16777216) (eg : ∀ args w, (callFunc f args).run Tryz.prog w = .ok (.enter f args) w) (hf : TestL w f caps P l) :
    Calls Tryz.prog 97 #[.slice pa l.length c, .func (.func f) #[] caps] w fun e w' => e = .returned (.bool (l.any P)) ∧ Below w.heap.size w w' := by
  have cI := Lib.hid (items_IndexFunc2 pa c l f caps P w hsl hl eg hf)
  have HA := Lib.hid (findI_any P l)
  generalize findI P l = i at *
  clear hf hsl eg
  go_enter Tryz.func97, Tryz.ntmps97
  go_wp2_with fail
  refine cI.out.mono ?_
  rintro e w2 ⟨rfl, hb2⟩
  go_wp2_with fail
  go_ret
  exact ⟨ret_bool HA.out, hb2⟩
end Go.Proofs.YtibhohpamnpkcaaGreatDoor

/- What items have that patterns want, in plain words. -/
namespace Go.Proofs.YtibhohpamnpkcaaGreatDoor
open Go.RowKit

/-- An item's value, if it has one. -/
def valI (x : It) : ByteArray := if x.has then x.value else ByteArray.empty
/-- Is an item as a pattern wants it? -/
def fitsB (p : It) (f : Bool) (x : It) : Bool := decide (x.name = p.name) && matchB p.value (valI x) f
/-- Have items what patterns want? -/
def wantB (l ps : List It) (f : Bool) : Bool := ps.all fun p => l.any (fitsB p f)
theorem want_comm (a b ps : List It) (f : Bool) : wantB (a ++ b) ps f = wantB (b ++ a) ps f := by
  unfold wantB
  congr 1
  funext p
  rw [List.any_append, List.any_append, Bool.or_comm]
theorem want_nil (l : List It) (f : Bool) : wantB l [] f = true := rfl
theorem want_take {l ps : List It} {f : Bool} (h : wantB l ps f = true) (i : Nat) : wantB l (ps.take i) f = true := by
  unfold wantB at h ⊢
  rw [List.all_eq_true] at h ⊢
  exact fun p hp => h p (List.mem_of_mem_take hp)
theorem want_drop {l ps : List It} {f : Bool} (h : wantB l ps f = true) (i : Nat) : wantB l (ps.drop i) f = true := by
  unfold wantB at h ⊢
  rw [List.all_eq_true] at h ⊢
  exact fun p hp => h p (List.mem_of_mem_drop hp)
theorem want_more {l ps : List It} {f : Bool} (h : wantB l ps f = true) (m : List It) : wantB (l ++ m) ps f = true := by
  unfold wantB at h ⊢
  rw [List.all_eq_true] at h ⊢
  intro p hp
  rw [List.any_append, h p hp]
  rfl
theorem want_no {l ps : List It} {f : Bool} {p : It} (h : p ∈ ps) (h2 : l.any (fitsB p f) = false) : wantB l ps f = false := by
  unfold wantB
  rw [List.all_eq_false]
  exact ⟨p, h, by rw [h2]; decide⟩
theorem want_yes {l ps : List It} {f : Bool} (h : ∀ (j : Nat) (p : It), j < ps.length → ps[j]? = some p → l.any (fitsB p f) = true) : wantB l ps f = true := by
  unfold wantB
  rw [List.all_eq_true]
  intro p hp
  obtain ⟨j, hj, rfl⟩ := List.mem_iff_getElem.1 hp
  exact h j _ hj (List.getElem?_eq_getElem hj)
/-- Are items more than are looked at? -/
def greatI (l : List It) : Bool := decide (300 < l.length) || l.any fun x => decide (200 < x.name.size) || decide (200 < x.value.size)
theorem great_no {l : List It} (h : greatI l = false) : l.length ≤ 300 ∧ ∀ x ∈ l, x.name.size ≤ 200 ∧ x.value.size ≤ 200 := by
  unfold greatI at h
  rw [Bool.or_eq_false_iff, decide_eq_false_iff_not, List.any_eq_false] at h
  refine ⟨by omega, fun x hx => ?_⟩
  have := h.2 x hx
  simp at this
  exact this
theorem great_len {l : List It} (h : 300 < l.length) : greatI l = true := by unfold greatI; rw [decide_eq_true h]; rfl
theorem great_any {l : List It} {x : It} (h : x ∈ l) (h2 : 200 < x.name.size ∨ 200 < x.value.size) : greatI l = true := by
  unfold greatI
  rw [Bool.or_eq_true, List.any_eq_true]
  refine .inr ⟨x, h, ?_⟩
  rcases h2 with h2 | h2
  · rw [decide_eq_true h2]; rfl
  · rw [decide_eq_true h2]; simp
theorem great_not {l : List It} (h : l.length ≤ 300) (h2 : ∀ x ∈ l, x.name.size ≤ 200 ∧ x.value.size ≤ 200) : greatI l = false := by
  unfold greatI
  rw [Bool.or_eq_false_iff, decide_eq_false_iff_not, List.any_eq_false]
  refine ⟨by omega, fun x hx => ?_⟩
  have := h2 x hx
  simp
  exact this
end Go.Proofs.YtibhohpamnpkcaaGreatDoor

/- query.Wanted. -/
namespace Go.Proofs.YtibhohpamnpkcaaGreatDoor
open Go.RowKit

theorem fits_no {p x : It} {f : Bool} (h : x.name ≠ p.name) : fitsB p f x = false := by unfold fitsB; rw [decide_eq_false h]; rfl
theorem fits_yes {p x : It} {f : Bool} (h : x.name = p.name) : fitsB p f x = matchB p.value (valI x) f := by unfold fitsB; rw [decide_eq_true h]; rfl
theorem str_eqT {a b : ByteArray} (h : a = b) : (a.toList == b.toList) = true := by rw [h]; simp
theorem str_eqF {a b : ByteArray} (h : a ≠ b) : (a.toList == b.toList) = false := by rw [str_eqB a b]; exact decide_eq_false h
end Go.Proofs.YtibhohpamnpkcaaGreatDoor

/- query.Values, query.Names, and the reference's. -/
namespace Go.Proofs.YtibhohpamnpkcaaGreatDoor
open Go.RowKit

/-- A row of strings that a call gives. -/
def StrsPost (l : List ByteArray) (w : World) (e : Ending) (w' : World) : Prop := Below w.heap.size w w' ∧ ∃ a c, e = .returned (.slice a l.length c) ∧ RowSl w' a (l.map strV)
theorem OwnS.post {w w' : World} {base : Nat} {v : Value} {l : List ByteArray} (h : OwnS w' base v l) (hb : Below w.heap.size w w') : StrsPost l w (.returned v) w' := by
  obtain ⟨a, c, rfl, _, _, hs⟩ := h.sl
  exact ⟨hb, a, c, rfl, hs⟩
set_option maxHeartbeats 3200000 in
set_option maxRecDepth 100000 in
theorem query_Values (pa : Option Addr) (pc : Nat) (l : List It) (n : ByteArray) (w : World) (hsl : ItemsSl w pa l) (hl : l.length ≤ 16777216) :
    Calls Tryz.prog 69 #[.slice pa l.length pc, .string n] w (StrsPost (valuesB l n) w) := by
  have HSL := Lib.hid hsl
  have hlen : ∀ i, (valuesB (l.take i) n).length ≤ i := fun i => Nat.le_trans (values_len _ _) (by rw [List.length_take]; omega)
  have HLEN := Lib.hid hlen
  clear hsl hlen
  go_enter Tryz.func69, Tryz.ntmps69
  go_wp2_with fail
  go_loopw [4, 9] (fun v x wr => ∃ i : Nat, i ≤ l.length ∧ x = .int .i64 i ∧ OwnS wr w.heap.size v (valuesB (l.take i) n) ∧ Below w.heap.size w wr) (fun _ x _ => l.length - (intOf x).toNat)
  case atStart => exact ⟨0, Nat.zero_le _, rfl, OwnS.nil _ _, Below.refl _ _⟩
  case round =>
    obtain ⟨i, hil, rfl, hown, hbr⟩ := hrel
    by_cases hlt : i < l.length
    · obtain ⟨p, hx⟩ : ∃ p, l[i]? = some p := ⟨_, List.getElem?_eq_getElem hlt⟩
      obtain ⟨b, off, rfl, hb, d0, d1, d2⟩ := (HSL.out.below hbr) i p hx
      have HV := Lib.hid (values_snoc n hx)
      have hvl := HLEN.out i
      obtain ⟨pn, pv, ph⟩ := p
      dsimp only at HV
      have hiI : (i : Int) < (l.length : Int) := by omega
      have hstA : Below wr.heap.size wr (wr.alloc (.cells #[.string pn, .string pv, .bool ph] 102)) := (Below.refl _ _).alloc (Nat.le_refl _) _
      have hbA := Bt hbr hstA
      have hownA := hown.below hstA
      clear hx
      generalize valuesB (l.take i) n = acc at *
      by_cases hn : pn = n
      · have en := str_eqT hn
        rw [if_pos hn] at HV
        have hstB : Below (wr.alloc (.cells #[.string pn, .string pv, .bool ph] 102)).heap.size (wr.alloc (.cells #[.string pn, .string pv, .bool ph] 102)) ((wr.alloc (.cells #[.string pn, .string pv, .bool ph] 102)).alloc (.cells #[.string pv] 9)) := (Below.refl _ _).alloc (Nat.le_refl _) _
        have hownB := hownA.below hstB
        have hbB := Bt hbA hstB
        have hblk : ((wr.alloc (.cells #[.string pn, .string pv, .bool ph] 102)).alloc (.cells #[.string pv] 9)).heap[wr.heap.size + 1]? = some (.cells #[.string pv] 9 (0, 0)) := by
          have := heap_alloc_new (wr.alloc (.cells #[.string pn, .string pv, .bool ph] 102)) (.cells #[.string pv] 9)
          rw [World.size_alloc] at this
          exact this
        have hsz := hbB.size
        clear hn hown hstA hownA hstB hbA hbr
        go_wp2_with (at_builtin; refine wpList_app_str rfl _ _ rfl w.heap.size _ _ rfl hownB (wr.heap.size + 1) 1 pv rfl hblk (by omega) hsz ?_)
        intro v' w' hown' hg'
        have hb' := hownB.under hbB (Nat.le_refl _) hg'
        clear hg' hownB hbB hblk hsz
        go_wp2_with fail
        go_roundw
        case rel => exact ⟨i + 1, by omega, by go_num, by rw [HV.out]; exact hown', hb'⟩
        case measure => simp [intOf]; omega
      · have en := str_eqF hn
        rw [if_neg hn] at HV
        clear hn hown hstA hbr
        go_wp2_with fail
        go_roundw
        case rel => exact ⟨i + 1, by omega, by go_num, by rw [HV.out]; exact hownA, hbA⟩
        case measure => simp [intOf]; omega
    · obtain rfl : i = l.length := by omega
      rw [List.take_length] at hown
      have HP := Lib.hid (hown.post hbr)
      clear hown
      go_wp2_with fail
      go_ret
      exact HP.out

end Go.Proofs.YtibhohpamnpkcaaGreatDoor

/- What an association says of an app and a URL: plain facts. -/
namespace Go.Proofs.YtibhohpamnpkcaaGreatDoor
open Go.RowKit
/-- Is an app among some? -/
def amongB (app : ByteArray × ByteArray) (l : List (ByteArray × ByteArray)) : Bool := l.any fun x => decide (x = app)

/-- A rule with its items. -/
structure Ru where
  r : Rl
  items : List It
/-- What is told of some apps. -/
structure Dt where
  apps : List (ByteArray × ByteArray)
  rules : List Ru
/-- A URL. -/
structure Ur where
  scheme : ByteArray
  hk : Int
  host : ByteArray
  port : Int
  path : ByteArray
  query : ByteArray
  frag : ByteArray
  hq : Bool
  hf : Bool
def wantR (fold : Bool) (vars : List SVar) (list : List It) (want : It) : Bool := (valuesB list want.name).any fun v => subM want.value vars v fold
def wantsP (fold : Bool) (vars : List SVar) (items : List It) (q : ByteArray) : Bool :=
  items.isEmpty || (decide ((itemsQ q).2.1 = 0) && items.all (wantR fold vars (itemsQ q).1))
def ruleP (vars : List SVar) (u : Ur) (x : Ru) : Bool :=
  fitsP x.r.dec x.r.fold x.r.hp x.r.path vars u.path && (fitsP x.r.dec x.r.fold x.r.hq x.r.query vars u.query && (fitsP x.r.dec x.r.fold x.r.hf x.r.frag vars u.frag && wantsP x.r.fold vars x.items u.query))
/-- The rule of a detail that speaks. -/
def hitD (app : ByteArray × ByteArray) (vars : List SVar) (u : Ur) (d : Dt) : Option Ru := if amongB app d.apps = true then d.rules.find? (ruleP vars u) else none
def saysN : Option Ru → Nat
  | none => 0
  | some r => if r.r.ex = true then 2 else 1
def verdictN (ds : List Dt) (app : ByteArray × ByteArray) (vars : List SVar) (u : Ur) : Nat := saysN (ds.findSome? (hitD app vars u))
def namedB (ds : List Dt) (app : ByteArray × ByteArray) : Bool := ds.any fun d => amongB app d.apps
theorem unnamed {ds : List Dt} {app : ByteArray × ByteArray} {vars : List SVar} {u : Ur} (h : namedB ds app = false) : verdictN ds app vars u = 0 := by
  unfold verdictN
  have : ds.findSome? (hitD app vars u) = none := by
    rw [List.findSome?_eq_none_iff]
    intro d hd
    unfold namedB at h
    rw [List.any_eq_false] at h
    unfold hitD
    rw [if_neg (by simpa using h d hd)]
  rw [this]; rfl
theorem saysN_pos {r : Ru} : saysN (some r) ≠ 0 := by
  unfold saysN
  by_cases h : r.r.ex = true <;> simp [h]
theorem behind {ds : List Dt} {app : ByteArray × ByteArray} {vars : List SVar} {u : Ur} (more : Ru) : verdictN (ds ++ [⟨[app], [more]⟩]) app vars u = if verdictN ds app vars u = 0 then (if ruleP vars u more = true then (if more.r.ex = true then 2 else 1) else 0) else verdictN ds app vars u := by
  unfold verdictN
  rw [List.findSome?_append]
  cases h : ds.findSome? (hitD app vars u) with
  | none =>
    rw [if_pos (show saysN none = 0 from rfl)]
    show saysN (List.findSome? _ [_]) = _
    simp only [List.findSome?_cons, List.findSome?_nil]
    unfold hitD
    rw [if_pos (by simp [amongB])]
    by_cases hm : ruleP vars u more = true
    · simp [List.find?_cons, hm, saysN]
    · simp [List.find?_cons, hm, saysN]
  | some r => rw [if_neg saysN_pos]; rfl
theorem ahead {ds : List Dt} {app : ByteArray × ByteArray} {vars : List SVar} {u : Ur} (none' : Ru) (hr : ruleP vars u none' = true) (hx : none'.r.ex = true) : verdictN (⟨[app], [none']⟩ :: ds) app vars u = 2 := by
  unfold verdictN
  have : hitD app vars u ⟨[app], [none']⟩ = some none' := by
    unfold hitD
    rw [if_pos (by simp [amongB])]
    simp [List.find?_cons, hr]
  rw [List.findSome?_cons, this]
  simp [saysN, hx]
theorem rule_none {vars : List SVar} {u : Ur} {x : Ru} (h1 : x.r.hp = false) (h2 : x.r.hq = false) (h3 : x.r.hf = false) (h4 : x.items = []) : ruleP vars u x = true := by
  unfold ruleP fitsP wantsP
  simp [h1, h2, h3, h4]
end Go.Proofs.YtibhohpamnpkcaaGreatDoor

/- Rules, apps and details, as they lie in memory. -/
namespace Go.Proofs.YtibhohpamnpkcaaGreatDoor
open Go.RowKit

def AppsSl (w : World) (a : Option Addr) (l : List (ByteArray × ByteArray)) : Prop := ∀ (i : Nat) (p : ByteArray × ByteArray), l[i]? = some p → ∃ b off, a = some ⟨b, off, none⟩ ∧ b < w.heap.size ∧
  w.cell? ⟨b, off + i * 2, none⟩ = some (.string p.1) ∧ w.cell? ⟨b, off + i * 2 + 1, none⟩ = some (.string p.2)
theorem AppsSl.below {w w' : World} {a : Option Addr} {l : List (ByteArray × ByteArray)} (h : AppsSl w a l) (hb : Below w.heap.size w w') : AppsSl w' a l := by
  intro i p hp
  obtain ⟨b, off, e, hlt, h1, h2⟩ := h i p hp
  exact ⟨b, off, e, Nat.lt_of_lt_of_le hlt hb.size, (hb.cell (p := ⟨b, _, none⟩) hlt).trans h1, (hb.cell (p := ⟨b, _, none⟩) hlt).trans h2⟩
def RulesSl (w : World) (a : Option Addr) (l : List Ru) : Prop := ∀ (i : Nat) (x : Ru), l[i]? = some x → ∃ b off, a = some ⟨b, off, none⟩ ∧ b < w.heap.size ∧
  (∀ j v, (rlC x.r)[j]? = some v → w.cell? ⟨b, off + i * 10 + j, none⟩ = some v) ∧ x.r.ilen = x.items.length ∧ ItemsSl w x.r.ia x.items
theorem RulesSl.below {w w' : World} {a : Option Addr} {l : List Ru} (h : RulesSl w a l) (hb : Below w.heap.size w w') : RulesSl w' a l := by
  intro i p hp
  obtain ⟨b, off, e, hlt, h1, h2, h3⟩ := h i p hp
  exact ⟨b, off, e, Nat.lt_of_lt_of_le hlt hb.size, fun j v hj => (hb.cell (p := ⟨b, _, none⟩) hlt).trans (h1 j v hj), h2, h3.below hb⟩
/-- A detail's two slices. -/
structure DtV (w : World) (u : Value × Value) (d : Dt) : Prop where
  app : ∃ a c, u.1 = .slice a d.apps.length c ∧ AppsSl w a d.apps
  rule : ∃ a c, u.2 = .slice a d.rules.length c ∧ RulesSl w a d.rules
theorem DtV.below {w w' : World} {u : Value × Value} {d : Dt} (h : DtV w u d) (hb : Below w.heap.size w w') : DtV w' u d := by
  obtain ⟨⟨a, c, e, h1⟩, ⟨a', c', e', h2⟩⟩ := h
  exact ⟨⟨a, c, e, h1.below hb⟩, ⟨a', c', e', h2.below hb⟩⟩
/-- Pairs of slices, in a row. -/
def PairSl (w : World) (a : Option Addr) (us : List (Value × Value)) : Prop := ∀ (i : Nat) (u : Value × Value), us[i]? = some u → ∃ b off, a = some ⟨b, off, none⟩ ∧ b < w.heap.size ∧
  w.cell? ⟨b, off + i * 2, none⟩ = some u.1 ∧ w.cell? ⟨b, off + i * 2 + 1, none⟩ = some u.2
theorem PairSl.below {w w' : World} {a : Option Addr} {l : List (Value × Value)} (h : PairSl w a l) (hb : Below w.heap.size w w') : PairSl w' a l := by
  intro i p hp
  obtain ⟨b, off, e, hlt, h1, h2⟩ := h i p hp
  exact ⟨b, off, e, Nat.lt_of_lt_of_le hlt hb.size, (hb.cell (p := ⟨b, _, none⟩) hlt).trans h1, (hb.cell (p := ⟨b, _, none⟩) hlt).trans h2⟩
def DetsSl (w : World) (a : Option Addr) (l : List Dt) : Prop := ∃ us, PairSl w a us ∧ us.length = l.length ∧ ∀ (i : Nat) (d : Dt), l[i]? = some d → ∃ u, us[i]? = some u ∧ DtV w u d
theorem DetsSl.below {w w' : World} {a : Option Addr} {l : List Dt} (h : DetsSl w a l) (hb : Below w.heap.size w w') : DetsSl w' a l := by
  obtain ⟨us, h1, h2, h3⟩ := h
  refine ⟨us, h1.below hb, h2, fun i d hd => ?_⟩
  obtain ⟨u, hu, hv⟩ := h3 i d hd
  exact ⟨u, hu, hv.below hb⟩
end Go.Proofs.YtibhohpamnpkcaaGreatDoor

/- slices.IndexFunc and ContainsFunc of rows of strings, with a closure of any captures. -/
namespace Go.Proofs.YtibhohpamnpkcaaGreatDoor
open Go.RowKit

theorem findG_any {α : Type} (P : α → Bool) (l : List α) : decide (0 ≤ findG P l) = l.any P := by
  unfold findG
  cases h : l.findIdx? P with
  | none =>
    have : l.any P = false := by
      rw [List.findIdx?_eq_none_iff] at h
      rw [List.any_eq_false]
      exact fun x hx => by simp [h x hx]
    rw [this]; rfl
  | some i =>
    obtain ⟨hi, h1, _⟩ := List.findIdx?_eq_some_iff_getElem.1 h
    have : l.any P = true := List.any_eq_true.2 ⟨_, List.getElem_mem hi, h1⟩
    rw [this]; simp
/-- A test that a closure makes of a row's strings, in whatever world lies behind w. -/
def TestStr (w : World) (f : FuncId) (caps : Array Value) (P : ByteArray → Bool) (l : List ByteArray) : Prop := ∀ (W : World) (x : ByteArray), x ∈ l → Below w.heap.size w W → Calls Tryz.prog f (#[.string x] ++ caps) W fun e w' => e = .returned (.bool (P x)) ∧ Below W.heap.size W w'
set_option maxHeartbeats 1600000 in
set_option maxRecDepth 100000 in
theorem strs_IndexFunc (a : Option Addr) (cap : Nat) (l : List ByteArray) (f : FuncId) (caps : Array Value) (P : ByteArray → Bool) (w : World) (hsl : RowSl w a (l.map strV)) (hl : l.length ≤ 16777216) (eg : ∀ args w, (callFunc f args).run Tryz.prog w = .ok (.enter f args) w) (hf : TestStr w f caps P l) :
    Calls Tryz.prog 91 #[.slice a l.length cap, .func (.func f) #[] caps] w fun e w' => e = .returned (.int .i64 (findG P l)) ∧ Below w.heap.size w w' := by
  have hF := Lib.hid hf
  have HSL := Lib.hid hsl
  clear hf hsl
  go_enter Tryz.func91, Tryz.ntmps91
  go_wp2_with fail
  go_loopw [8] (fun x wr => ∃ i : Nat, i ≤ l.length ∧ x = .int .i64 i ∧ Below w.heap.size w wr ∧ ∀ (j : Nat) (y : ByteArray), j < i → l[j]? = some y → P y = false) (fun x _ => l.length - (intOf x).toNat)
  case atStart => exact ⟨0, Nat.zero_le _, rfl, Below.refl _ _, fun j y h => by omega⟩
  case round =>
    obtain ⟨i, hil, rfl, hbr, hall⟩ := hrel
    have HA := Lib.hid hall
    clear hall
    by_cases hlt : i < l.length
    · obtain ⟨x, hx⟩ : ∃ x, l[i]? = some x := ⟨_, List.getElem?_eq_getElem hlt⟩
      obtain ⟨b, rfl, hb, d0⟩ := RowSl.below HSL.out hbr i (strV x) (by rw [List.getElem?_map, hx]; rfl)
      unfold strV at d0
      have hhit := fun h => findG_hit hx h HA.out
      have hst : P x = false → ∀ (j : Nat) (y : ByteArray), j < i + 1 → l[j]? = some y → P y = false := fun h j y hj hy => by
        by_cases hji : j = i
        · subst hji; rw [hx] at hy; cases hy; exact h
        · exact HA.out j y (by omega) hy
      have HHIT := Lib.hid hhit
      have HST := Lib.hid hst
      have cF := Lib.hid (hF.out wr x (List.mem_of_getElem? hx) hbr)
      have hiI : (i : Int) < (l.length : Int) := by omega
      clear hhit hst hx HA hF
      generalize P x = r at *
      go_wp2_with fail
      refine cF.out.mono ?_
      rintro e w2 ⟨rfl, hb2⟩
      have hbr2 := Bt hbr hb2
      cases r
      · have HX := Lib.hid (HST.out rfl)
        go_wp2_with fail
        go_roundw
        case rel => exact ⟨i + 1, by omega, by go_num, hbr2, HX.out⟩
        case measure => simp [intOf]; omega
      · have HX := Lib.hid (HHIT.out rfl)
        go_wp2_with fail
        go_ret
        exact ⟨ret_i64 HX.out.symm, hbr2⟩
    · obtain rfl : i = l.length := by omega
      have hn : findG P l = -1 := findG_none fun j y hy => HA.out j y (List.getElem?_eq_some_iff.1 hy).1 hy
      have HN := Lib.hid hn
      clear hn
      go_wp2_with fail
      go_ret
      exact ⟨ret_i64 HN.out.symm, hbr⟩
set_option maxHeartbeats 800000 in
theorem strs_ContainsFunc (a : Option Addr) (cap : Nat) (l : List ByteArray) (f : FuncId) (caps : Array Value) (P : ByteArray → Bool) (w : World) (hsl : RowSl w a (l.map strV)) (hl : l.length ≤ 16777216) (eg : ∀ args w, (callFunc f args).run Tryz.prog w = .ok (.enter f args) w) (hf : TestStr w f caps P l) :
    Calls Tryz.prog 68 #[.slice a l.length cap, .func (.func f) #[] caps] w fun e w' => e = .returned (.bool (l.any P)) ∧ Below w.heap.size w w' := by
  have cI := Lib.hid (strs_IndexFunc a cap l f caps P w hsl hl eg hf)
  have HA := Lib.hid (findG_any P l)
  generalize findG P l = i at *
  clear hf hsl eg
  go_enter Tryz.func68, Tryz.ntmps68
  go_wp2_with fail
  refine cI.out.mono ?_
  rintro e w2 ⟨rfl, hb2⟩
  go_wp2_with fail
  go_ret
  exact ⟨ret_bool HA.out, hb2⟩
end Go.Proofs.YtibhohpamnpkcaaGreatDoor

/- Items, compared; two rows of items. -/
namespace Go.Proofs.YtibhohpamnpkcaaGreatDoor
open Go.RowKit

def itemV (x : It) : Value := .agg #[.string x.name, .string x.value, .bool x.has]
theorem toList_eqB (a b : ByteArray) : (a.toList = b.toList) = (a = b) := by
  have h := str_eqB a b
  rw [Bool.eq_iff_iff] at h
  simpa using h
theorem neq_item (n v : ByteArray) (b : Bool) (n' v' : ByteArray) (b' : Bool) (w : World) : (binOp .neq 102 (.agg #[.string n, .string v, .bool b]) (.agg #[.string n', .string v', .bool b'])).run Tryz.prog w = .ok (.bool (!decide ((⟨n, v, b⟩ : It) = ⟨n', v', b'⟩))) w := by
  have u9 := Tryz.underlying9
  have u4 := Tryz.underlying4
  have z9 := Tryz.sizeOf9
  have z4 := Tryz.sizeOf4
  have a9 := Tryz.isAgg9
  have a4 := Tryz.isAgg4
  have hS : Tryz.prog.underlying 102 = some (.struct (Tryz.prog.fieldsOf 102)) := by kernel_rfl
  have hp : Tryz.prog.stoodInHeld 102 = false := by kernel_rfl
  rw [run_neq_struct, show (10000 : Nat) = 9999 + 1 from rfl, run_equalIn_agg w 9999 102 _ _ hS hp]
  simp only [Program.fieldsOf, Tryz.underlying102]
  go_simp
  simp only [toList_eqB]
  by_cases h1 : n = n'
  · by_cases h2 : v = v'
    · by_cases h3 : b = b'
      · simp [h1, h2, h3]
      · simp [h1, h2, h3]
    · simp [h1, h2]
  · simp [h1]

end Go.Proofs.YtibhohpamnpkcaaGreatDoor

/- The example of chapter 16's statements. -/
namespace Go.Proofs.YtibhohpamnpkcaaGreatDoor
open Go.RowKit

theorem itemsQ_len (s : ByteArray) : (itemsQ s).1.length ≤ 256 := goG_len stepQ_right _ _ _ (Nat.zero_le _)
theorem itemsQ_empty {s : ByteArray} (h : (itemsQ s).2.1 ≠ 0) : (itemsQ s).1 = [] := goG_empty _ _ _ h
theorem itemsQ_zero {s : ByteArray} (h : (itemsQ s).2.1 = 0) : (itemsQ s).2.2 = 0 := goG_zero stepQ_right _ _ _ h
theorem ItemsOwn.nil (w : World) (a : Option Addr) : ItemsOwn w a [] := fun i p h => by simp at h
/-- Items, and an error, as query.Items gives them. -/
def QItems (s : ByteArray) (w : World) (e : Ending) (w' : World) : Prop := Below w.heap.size w w' ∧ ∃ a c v, e = .returned (.tuple #[.slice a (itemsQ s).1.length c, v]) ∧ (itemsQ s).1.length ≤ c ∧ c ≤ maxLen ∧ ItemsOwn w' a (itemsQ s).1 ∧ IsErr w' v (itemsQ s).2.1 (itemsQ s).2.2
theorem query_Items' (s : ByteArray) (w : World) (hg : Handle w) (hU : Utf8Laid w) (hs : s.size ≤ 1000000) : Calls Tryz.prog 67 #[.string s] w (QItems s w) :=
  (query_Items s w hg hU hs).mono fun e w' ⟨hb, h⟩ => by
    refine ⟨hb, ?_⟩
    rcases h with ⟨hk, v, rfl, hown⟩ | ⟨hk, v, n, rfl, hv⟩
    · obtain ⟨a, c, rfl, h1, h2, h3⟩ := hown.sl
      exact ⟨a, c, _, rfl, h1, h2, h3, .inl ⟨hk, rfl⟩⟩
    · have hn := itemsQ_empty hk
      refine ⟨none, 0, v, ?_, ?_, ?_, ?_, .inr ⟨hk, n, hv⟩⟩
      · rw [hn]; rfl
      · rw [hn]; exact Nat.le_refl _
      · unfold maxLen; omega
      · rw [hn]; exact ItemsOwn.nil _ _
theorem ItemsOwn.lit (w : World) (l : List It) (cs : Array Value) (h : cs = (itemsV l).toArray) : ItemsOwn (w.alloc (.cells cs 102)) (some ⟨w.heap.size, 0, none⟩) l := by
  subst h
  intro i p hp
  have hc : ∀ j, j < 3 → (w.alloc (.cells (itemsV l).toArray 102)).cell? ⟨w.heap.size, i * 3 + j, none⟩ = (itemC p)[j]? := fun j hj => by
    rw [World.cell?_alloc_at _ _ _ _ rfl]
    simpa using itemsV_at hp j hj
  exact ⟨w.heap.size, rfl, by simp, hc 0 (by omega), hc 1 (by omega), hc 2 (by omega)⟩
theorem sp16 : itemsQ ⟨#[97, 61, 49, 38, 38, 98, 38, 37, 54, 51, 61, 37, 54, 52]⟩ = ([⟨⟨#[97]⟩, ⟨#[49]⟩, true⟩, ⟨⟨#[98]⟩, ⟨#[]⟩, false⟩, ⟨⟨#[99]⟩, ⟨#[100]⟩, true⟩], 0, 0) := by decide +kernel
end Go.Proofs.YtibhohpamnpkcaaGreatDoor

/- Whether a query has the items that a rule wants. -/
namespace Go.Proofs.YtibhohpamnpkcaaGreatDoor
open Go.RowKit

theorem goG_all {g : StepG} {most : Nat} (P : It → Prop) : ∀ (ps : List ByteArray) (at_ : Nat) (acc : List It), (∀ p ∈ ps, ∀ b x, g p b = some (.ok x) → P x) → (∀ x ∈ acc, P x) → ∀ x ∈ (goG g most ps at_ acc).1, P x
  | [], _, acc, _, h => h
  | p :: ps, at_, acc, hp, h => by
    rcases goG_ways g most p acc with h1 | ⟨k, i, h1⟩ | ⟨x, h1⟩
    · rw [goG_none h1]; exact goG_all P ps _ _ (fun q hq => hp q (List.mem_cons_of_mem _ hq)) h
    · rw [goG_bad h1]; intro x hx; cases hx
    · rw [goG_ok h1]
      refine goG_all P ps _ _ (fun q hq => hp q (List.mem_cons_of_mem _ hq)) ?_
      intro y hy
      rcases List.mem_append.1 hy with hy | hy
      · exact h y hy
      · obtain rfl : y = x := by simpa using hy
        exact hp p List.mem_cons_self _ _ h1
theorem itemP_size {p : ByteArray} {x : It} (h : itemP p = .ok x) : x.value.size ≤ p.size := by
  unfold itemP at h
  split at h
  · cases h
  · split at h
    · cases h
    · split at h
      · injection h with h
        subst h
        show (ofL (bytesT (cutV 61 p))).size ≤ _
        rw [ofL_size]
        exact Nat.le_trans (bytesT_len _) (cutV_size 61 p)
      · cases h
theorem itemsQ_size (s : ByteArray) : ∀ x ∈ (itemsQ s).1, x.value.size ≤ s.size := by
  refine goG_all (fun x => x.value.size ≤ s.size) _ _ _ (fun p hp b x h => ?_) (fun x h => by cases h)
  have hps := partsB_sizes 38 s p hp
  unfold stepQ at h
  split at h
  · cases h
  · split at h
    · cases h
    · injection h with h
      exact Nat.le_trans (itemP_size h) hps
theorem values_mem {l : List It} {n v : ByteArray} (h : v ∈ valuesB l n) : ∃ x ∈ l, x.value = v := by
  unfold valuesB at h
  obtain ⟨x, hx, rfl⟩ := List.mem_map.1 h
  exact ⟨x, (List.mem_filter.1 hx).1, rfl⟩
/-- The block of a look. -/
def lookC (r : Rl) (av : Option Addr) (vn vcap : Nat) : Array Value := #[.string r.path, .string r.query, .string r.frag, .bool r.hp, .bool r.hq, .bool r.hf, .slice r.ia r.ilen r.icap, .bool r.ex, .bool r.fold, .bool r.dec, .slice av vn vcap]
/-- In block g lies a look. -/
def LookAt (w : World) (g : Nat) (r : Rl) (av : Option Addr) (vn vcap : Nat) : Prop := w.heap[g]? = some (.cells (lookC r av vn vcap) 109 (0, 0))
theorem LookAt.below {w w' : World} {g : Nat} {r : Rl} {av : Option Addr} {vn vcap : Nat} (h : LookAt w g r av vn vcap) (hb : Below w.heap.size w w') : LookAt w' g r av vn vcap := (hb.block _ (lt_of_block h)).trans h
theorem LookAt.cells {w : World} {g : Nat} {r : Rl} {av : Option Addr} {vn vcap : Nat} (h : LookAt w g r av vn vcap) :
    w.cell? ⟨g, 0, none⟩ = some (.string r.path) ∧ w.cell? ⟨g, 1, none⟩ = some (.string r.query) ∧ w.cell? ⟨g, 2, none⟩ = some (.string r.frag) ∧ w.cell? ⟨g, 3, none⟩ = some (.bool r.hp) ∧ w.cell? ⟨g, 4, none⟩ = some (.bool r.hq) ∧ w.cell? ⟨g, 5, none⟩ = some (.bool r.hf) ∧ w.cell? ⟨g, 6, none⟩ = some (.slice r.ia r.ilen r.icap) ∧ w.cell? ⟨g, 7, none⟩ = some (.bool r.ex) ∧ w.cell? ⟨g, 8, none⟩ = some (.bool r.fold) ∧ w.cell? ⟨g, 9, none⟩ = some (.bool r.dec) ∧ w.cell? ⟨g, 10, none⟩ = some (.slice av vn vcap) :=
  ⟨(cell_of_row _ _ 0 _ _ _ h).trans rfl, (cell_of_row _ _ 1 _ _ _ h).trans rfl, (cell_of_row _ _ 2 _ _ _ h).trans rfl, (cell_of_row _ _ 3 _ _ _ h).trans rfl, (cell_of_row _ _ 4 _ _ _ h).trans rfl, (cell_of_row _ _ 5 _ _ _ h).trans rfl, (cell_of_row _ _ 6 _ _ _ h).trans rfl, (cell_of_row _ _ 7 _ _ _ h).trans rfl, (cell_of_row _ _ 8 _ _ _ h).trans rfl, (cell_of_row _ _ 9 _ _ _ h).trans rfl, (cell_of_row _ _ 10 _ _ _ h).trans rfl⟩
set_option maxHeartbeats 800000 in
theorem look_items1 (r : Rl) (x : It) (s : ByteArray) (av : Option Addr) (vcap : Nat) (vars : List SVar) (g gx : Nat) (w : World) (hw : Looks w av vars) (hg : LookAt w g r av vars.length vcap) (hx : ItemAt w gx x.name x.value x.has) (hp : x.value.size ≤ 16777216) (hs : s.size ≤ 16777216) :
    Calls Tryz.prog 70 #[.string s, .pointer (some ⟨g, 0, none⟩), .pointer (some ⟨gx, 0, none⟩)] w fun e w' => e = .returned (.bool (subM x.value vars s r.fold)) ∧ Below w.heap.size w w' := by
  obtain ⟨c0, c1, c2, c3, c4, c5, c6, c7, c8, c9, c10⟩ := hg.cells
  have x1 : w.cell? ⟨gx, 1, none⟩ = some (.string x.value) := (cell_of_row _ _ 1 _ _ _ hx).trans rfl
  have CM := Lib.hid (look_match r x.value s av vcap vars w hw.utf hw.cls hw.max hw.sl hp hs hw.len hw.vals)
  obtain ⟨f0, f1, f2, f3, f4, f5, f6, f7, f8, f9, f10, f11⟩ := r
  dsimp only at c0 c1 c2 c3 c4 c5 c6 c7 c8 c9 c10
  clear hg hx hw hp hs
  go_enter Tryz.func70, Tryz.ntmps70
  go_wp2_with fail
  refine CM.out.mono ?_
  rintro e w4 ⟨rfl, hb⟩
  go_wp2_with fail
  go_ret
  exact ⟨rfl, hb⟩
theorem all_take_succ {l : List It} {i : Nat} {x : It} (P : It → Bool) (h : l[i]? = some x) (h0 : (l.take i).all P = true) : (l.take (i + 1)).all P = P x := by
  rw [List.take_add_one, h]
  simp [h0]
theorem all_no {l : List It} {i : Nat} {x : It} (P : It → Bool) (h : l[i]? = some x) (h0 : P x = false) : l.all P = false := by
  rw [List.all_eq_false]
  exact ⟨x, List.mem_of_getElem? h, by simp [h0]⟩
set_option maxHeartbeats 6400000 in
set_option maxRecDepth 100000 in
theorem look_items (r : Rl) (items : List It) (s : ByteArray) (av : Option Addr) (vcap : Nat) (vars : List SVar) (w : World) (hw : Looks w av vars) (hH : Handle w) (hs : s.size ≤ 1000000) (hil : r.ilen = items.length) (hit : ItemsSl w r.ia items) (hin : items.length ≤ 16777216) (hiv : ∀ x ∈ items, x.value.size ≤ 16777216) :
    Calls Tryz.prog 45 #[.agg #[.string r.path, .string r.query, .string r.frag, .bool r.hp, .bool r.hq, .bool r.hf, .slice r.ia r.ilen r.icap, .bool r.ex, .bool r.fold, .bool r.dec, .slice av vars.length vcap], .string s] w fun e w' => e = .returned (.bool (wantsP r.fold vars items s)) ∧ Below w.heap.size w w' := by
  obtain ⟨f0, f1, f2, f3, f4, f5, f6, ln, f7, f8, f9, f10⟩ := r
  dsimp only at hil hit ⊢
  subst hil
  have hal : Below w.heap.size w (w.alloc (.cells #[.string f0, .string f1, .string f2, .bool f3, .bool f4, .bool f5, .slice f6 items.length f7, .bool f8, .bool f9, .bool f10, .slice av vars.length vcap] 109)) := (Below.refl _ _).alloc (Nat.le_refl _) _
  have hLk : LookAt (w.alloc (.cells #[.string f0, .string f1, .string f2, .bool f3, .bool f4, .bool f5, .slice f6 items.length f7, .bool f8, .bool f9, .bool f10, .slice av vars.length vcap] 109)) w.heap.size ⟨f0, f1, f2, f3, f4, f5, f6, items.length, f7, f8, f9, f10⟩ av vars.length vcap := heap_alloc_new w _
  have HF := Lib.hid (fun W (hW : Below w.heap.size w W) => (⟨hw.below hW, hH.below hW, hit.below hW⟩ : Looks W av vars ∧ Handle W ∧ ItemsSl W f6 items))
  have HIV := Lib.hid hiv
  have HAL := Lib.hid hal
  have HLK := Lib.hid hLk
  have CQ := Lib.hid (query_Items s _ (hH.below hal) (hw.utf.below hal) hs)
  have HWP := Lib.hid (show wantsP f9 vars items s = (items.isEmpty || (decide ((itemsQ s).2.1 = 0) && items.all (wantR f9 vars (itemsQ s).1))) from rfl)
  have hvz := itemsQ_size s
  have hql := itemsQ_len s
  have hvz2 : ∀ x ∈ (itemsQ s).1, x.value.size ≤ 16777216 := fun x hx => by have := hvz x hx; omega
  have HVZ := Lib.hid hvz2
  clear hw hH hit hiv hal hLk hvz hvz2
  by_cases h0 : items.length = 0
  · have hP : wantsP f9 vars items s = true := by rw [HWP.out, List.eq_nil_of_length_eq_zero h0]; rfl
    have HP := Lib.hid hP
    have e0 : ((items.length : Int) == 0) = true := by rw [h0]; rfl
    clear h0 hP CQ
    generalize items.length = n at *
    go_enter Tryz.func45, Tryz.ntmps45
    go_wp2_with fail
    go_ret
    exact ⟨ret_bool HP.out.symm, HAL.out⟩
  have e0 : ((items.length : Int) == 0) = false := by rw [beq_eq_false_iff_ne]; omega
  have hne : items.isEmpty = false := by cases items with | nil => simp at h0 | cons a l => rfl
  rw [hne, Bool.false_or] at HWP
  clear h0 hne
  go_enter Tryz.func45, Tryz.ntmps45
  go_wp2_with fail
  refine CQ.out.mono ?_
  rintro e w1 ⟨hb1, h⟩
  have hLk1 := HLK.out.below hb1
  have hb01 := Bt HAL.out hb1
  obtain ⟨c0, c1, c2, c3, c4, c5, c6, c7, c8, c9, c10⟩ := hLk1.cells
  dsimp only at c0 c1 c2 c3 c4 c5 c6 c7 c8 c9 c10
  rcases h with ⟨hk, v, rfl, hown⟩ | ⟨hk, v, n, rfl, hf⟩
  · rw [decide_eq_true hk, Bool.true_and] at HWP
    obtain ⟨qa, qc, rfl, _, _, hqs⟩ := hown.sl
    have HQS := Lib.hid hqs.items
    have HB01 := Lib.hid hb01
    have HL1 := Lib.hid hLk1
    clear hk hown hqs CQ HLK hb1 HAL
    revert hql
    generalize (itemsQ s).1 = L at *
    intro hql
    go_wp2_with fail
    go_loopw [26] (fun x wr => ∃ i : Nat, i ≤ items.length ∧ x = .int .i64 i ∧ Below w1.heap.size w1 wr ∧ (items.take i).all (wantR f9 vars L) = true) (fun x _ => items.length - (intOf x).toNat)
    case atStart => exact ⟨0, Nat.zero_le _, rfl, Below.refl _ _, by simp⟩
    case round =>
      obtain ⟨i, hiN, rfl, hbr, hall⟩ := hrel
      have HA := Lib.hid hall
      have hLr := HL1.out.below hbr
      obtain ⟨c0, c1, c2, c3, c4, c5, c6, c7, c8, c9, c10⟩ := hLr.cells
      dsimp only at c0 c1 c2 c3 c4 c5 c6 c7 c8 c9 c10
      clear hall
      by_cases hlt : i < items.length
      · obtain ⟨x, hx⟩ : ∃ x, items[i]? = some x := ⟨_, List.getElem?_eq_getElem hlt⟩
        have hb0r := Bt HB01.out hbr
        obtain ⟨hwr, _, hir⟩ := HF.out wr hb0r
        obtain ⟨b, off, rfl, hb, d0, d1, d2⟩ := hir i x hx
        have HX := Lib.hid hx
        have hxz := HIV.out x (List.mem_of_getElem? hx)
        have hiI : (i : Int) < (items.length : Int) := by omega
        obtain ⟨xn, xv, xh⟩ := x
        dsimp only at d0 d1 d2 hxz
        have hblA : Below wr.heap.size wr (wr.alloc (.cells #[.string xn, .string xv, .bool xh] 102)) := (Below.refl _ _).alloc (Nat.le_refl _) _
        have hItA : ItemAt (wr.alloc (.cells #[.string xn, .string xv, .bool xh] 102)) wr.heap.size xn xv xh := heap_alloc_new wr _
        have CV := Lib.hid (query_Values qa qc L xn _ ((HQS.out.below hbr).below hblA) (by omega))
        have HBA := Lib.hid hblA
        have HIA := Lib.hid hItA
        have HLR := Lib.hid hLr
        have hmf : ∀ (fn : Fn) (first cap : Array Value) (w : World), (Instr.makeFunc fn first cap).run Tryz.prog w = .ok (.func fn first cap) w := fun _ _ _ _ => rfl
        clear hwr hir hx hblA hItA hLr
        go_wp2_with fail
        refine CV.out.mono ?_
        rintro e w2 ⟨hb2, va, vc, rfl, hvs⟩
        have hbA2 := Bt HBA.out hb2
        have hbr2 := Bt hbr hbA2
        have hb02 := Bt HB01.out hbr2
        have hvl := values_len L xn
        have CC := Lib.hid (strs_ContainsFunc va vc (valuesB L xn) 70 #[.pointer (some ⟨w.heap.size, 0, none⟩), .pointer (some ⟨wr.heap.size, 0, none⟩)] (fun v => subM xv vars v f9) w2 hvs (by omega) (enters_of Tryz.func70 (by kernel_rfl) rfl) (fun W y hy hW => by
          obtain ⟨z, hz, rfl⟩ := values_mem hy
          exact look_items1 ⟨f0, f1, f2, f3, f4, f5, _, items.length, f7, f8, f9, f10⟩ ⟨xn, xv, xh⟩ z.value av vcap vars w.heap.size wr.heap.size W ((HF.out _ (Bt hb02 hW)).1) ((HLR.out.below hbA2).below hW) ((HIA.out.below hb2).below hW) hxz (HVZ.out z hz)))
        have HW2 := Lib.hid (show (valuesB L xn).any (fun v => subM xv vars v f9) = wantR f9 vars L ⟨xn, xv, xh⟩ from rfl)
        rw [HW2.out] at CC
        have hst : wantR f9 vars L ⟨xn, xv, xh⟩ = true → (items.take (i + 1)).all (wantR f9 vars L) = true := fun h => (all_take_succ (wantR f9 vars L) HX.out HA.out).trans h
        have hno : wantR f9 vars L ⟨xn, xv, xh⟩ = false → items.all (wantR f9 vars L) = false := fun h => all_no (wantR f9 vars L) HX.out h
        have HST := Lib.hid hst
        have HNO := Lib.hid hno
        generalize wantR f9 vars L ⟨xn, xv, xh⟩ = ok at *
        generalize valuesB L xn = VL at *
        clear hvs hb2 HA hst hno HX HW2
        go_wp2_with fail
        refine CC.out.mono ?_
        rintro e w3 ⟨rfl, hb3⟩
        have hbr3 := Bt hbr2 hb3
        have hb03 := Bt hb02 hb3
        clear hb3 hbA2
        cases ok
        · have HN := Lib.hid (HNO.out rfl)
          go_wp2_with fail
          go_ret
          exact ⟨ret_bool (by rw [HWP.out, HN.out]), hb03⟩
        · have HS := Lib.hid (HST.out rfl)
          go_wp2_with fail
          go_roundw
          case rel => exact ⟨i + 1, by omega, by go_num, hbr3, HS.out⟩
          case measure => simp [intOf]; omega
      · obtain rfl : i = items.length := by omega
        have hA := HA.out
        rw [List.take_length] at hA
        have HT := Lib.hid hA
        clear hA HA
        have hb0r := Bt HB01.out hbr
        go_wp2_with fail
        go_ret
        exact ⟨ret_bool (by rw [HWP.out, HT.out]), hb0r⟩
  · obtain ⟨zz, rfl⟩ := hf.ne_nil
    rw [decide_eq_false hk, Bool.false_and] at HWP
    clear hf hk
    go_wp2_with fail
    go_ret
    exact ⟨ret_bool HWP.out.symm, hb01⟩
end Go.Proofs.YtibhohpamnpkcaaGreatDoor
