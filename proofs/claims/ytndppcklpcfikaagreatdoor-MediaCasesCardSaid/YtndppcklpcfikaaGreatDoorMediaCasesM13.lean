/- slices.IndexFunc and ContainsFunc of items that lie anywhere, with a closure of any captures. -/
import Derived.Test.YtndppcklpcfikaaGreatDoorMediaCasesM9
import Derived.Test.YtndppcklpcfikaaGreatDoorMediaCasesM12
import Derived.Test.YtndppcklpcfikaaGreatDoorMediaCasesM1
import Derived.Defers
import Derived.Laws.Pointers
import Derived.Laws.LoneSync
import Derived.RegionTactic
import Derived.RegionCalls
import Derived.Laws.OwnMore
import Derived.Deep.OwnRows
import Derived.Maps.AppendAt
import Derived.Lib.SlicesS
import Derived.Test.YtndppcklpcfikaaGreatDoorShelf

namespace Go.Proofs.YtndppcklpcfikaaGreatDoor
open Go.RowKit

theorem ItemsSl.take {w : World} {a : Option Addr} {l : List It} (h : ItemsSl w a l) (n : Nat) : ItemsSl w a (l.take n) := by
  intro i p hp
  refine h i p ?_
  rw [List.getElem?_take] at hp
  split at hp
  · exact hp
  · cases hp
/-- A test that a closure makes of a list's items, in whatever world lies behind w. -/
def TestL (w : World) (f : FuncId) (caps : Array Value) (P : It → Bool) (l : List It) : Prop := ∀ (W : World) (x : It), x ∈ l → Below w.heap.size w W → Calls Tryz.prog f (#[.agg #[.string x.name, .string x.value, .bool x.has]] ++ caps) W fun e w' => e = .returned (.bool (P x)) ∧ Below W.heap.size W w'
set_option maxHeartbeats 1600000 in
set_option maxRecDepth 100000 in
theorem items_IndexFunc2 (pa : Option Addr) (c : Nat) (l : List It) (f : FuncId) (caps : Array Value) (P : It → Bool) (w : World) (hsl : ItemsSl w pa l) (hl : l.length ≤ 16777216) (eg : ∀ args w, (callFunc f args).run Tryz.prog w = .ok (.enter f args) w) (hf : TestL w f caps P l) :
    Calls Tryz.prog 24 #[.slice pa l.length c, .func (.func f) #[] caps] w fun e w' => e = .returned (.int .i64 (findI P l)) ∧ Below w.heap.size w w' := by
  have hF := Lib.hid hf
  clear hf
  go_enter Tryz.func24, Tryz.ntmps24
  go_wp2_with fail
  go_loopw [8] (fun x wr => ∃ i : Nat, i ≤ l.length ∧ x = .int .i64 i ∧ Below w.heap.size w wr ∧ ∀ (j : Nat) (y : It), j < i → l[j]? = some y → P y = false) (fun x _ => l.length - (intOf x).toNat)
  case atStart => exact ⟨0, Nat.zero_le _, rfl, Below.refl _ _, fun j y h => by omega⟩
  case round =>
    obtain ⟨i, hil, rfl, hbr, hall⟩ := hrel
    have HA := Lib.hid hall
    clear hall
    by_cases hlt : i < l.length
    · obtain ⟨x, hx⟩ : ∃ x, l[i]? = some x := ⟨_, List.getElem?_eq_getElem hlt⟩
      obtain ⟨b, off, rfl, hb, d0, d1, d2⟩ := (hsl.below hbr) i x hx
      have hhit := fun h => findI_hit hx h HA.out
      have hst : P x = false → ∀ (j : Nat) (y : It), j < i + 1 → l[j]? = some y → P y = false := fun h j y hj hy => by
        by_cases hji : j = i
        · subst hji; rw [hx] at hy; cases hy; exact h
        · exact HA.out j y (by omega) hy
      have HHIT := Lib.hid hhit
      have HST := Lib.hid hst
      have cF := Lib.hid (hF.out wr x (List.mem_of_getElem? hx) hbr)
      obtain ⟨xn, xv, xh⟩ := x
      have hiI : (i : Int) < (l.length : Int) := by omega
      clear hhit hst hx HA hF
      generalize P ⟨xn, xv, xh⟩ = r at *
      go_wp2_with fail
      refine cF.out.mono ?_
      rintro e w2 ⟨rfl, hb2⟩
      have hbr2 := Bt hbr hb2
      cases r
      · have HX := Lib.hid (HST.out rfl)
        go_wp2_with fail
        go_roundw
        case rel => exact ⟨i + 1, by omega, by go_num, hbr2, HX.out⟩
        case measure => simp [intOf]; omega
      · have HX := Lib.hid (HHIT.out rfl)
        go_wp2_with fail
        go_ret
        exact ⟨ret_i64 HX.out.symm, hbr2⟩
    · obtain rfl : i = l.length := by omega
      have hn : findI P l = -1 := findI_none fun j y hy => HA.out j y (List.getElem?_eq_some_iff.1 hy).1 hy
      have HN := Lib.hid hn
      clear hn
      go_wp2_with fail
      go_ret
      exact ⟨ret_i64 HN.out.symm, hbr⟩
set_option maxHeartbeats 800000 in
theorem items_ContainsFunc2 (pa : Option Addr) (c : Nat) (l : List It) (f : FuncId) (caps : Array Value) (P : It → Bool) (w : World) (hsl : ItemsSl w pa l) (hl : l.length ≤ 16777216) (eg : ∀ args w, (callFunc f args).run Tryz.prog w = .ok (.enter f args) w) (hf : TestL w f caps P l) :
    Calls Tryz.prog 34 #[.slice pa l.length c, .func (.func f) #[] caps] w fun e w' => e = .returned (.bool (l.any P)) ∧ Below w.heap.size w w' := by
  have cI := Lib.hid (items_IndexFunc2 pa c l f caps P w hsl hl eg hf)
  have HA := Lib.hid (findI_any P l)
  generalize findI P l = i at *
  clear hf hsl eg
  go_enter Tryz.func34, Tryz.ntmps34
  go_wp2_with fail
  refine cI.out.mono ?_
  rintro e w2 ⟨rfl, hb2⟩
  go_wp2_with fail
  go_ret
  exact ⟨ret_bool HA.out, hb2⟩
end Go.Proofs.YtndppcklpcfikaaGreatDoor

/- The value of a parameter, of items that lie anywhere: media.Param, the reference's. -/
namespace Go.Proofs.YtndppcklpcfikaaGreatDoor
open Go.RowKit

set_option maxHeartbeats 1600000 in
set_option maxRecDepth 100000 in
theorem media_ParamSl (a b n : ByteArray) (pa : Option Addr) (c : Nat) (l : List It) (w : World) (hsl : ItemsSl w pa l) (hl : l.length ≤ 16777216) :
    Calls Tryz.prog 8 #[.agg #[.string a, .string b, .slice pa l.length c], .string n] w fun e w' => Below w.heap.size w w' ∧ ((paramM l n = none ∧ e = .returned (.tuple #[.string ⟨#[]⟩, .bool false])) ∨ ∃ v, paramM l n = some v ∧ e = .returned (.tuple #[.string v, .bool true])) := by
  have hm1 : MediaAt (w.alloc (.cells #[.string a, .string b, .slice pa l.length c] 24)) w.heap.size a b pa l.length c := MediaAt.new
  have hst1 := (Below.refl w.heap.size w).alloc (Nat.le_refl _) (.cells #[.string a, .string b, .slice pa l.length c] 24)
  have hst2 := (Below.refl (w.alloc (.cells #[.string a, .string b, .slice pa l.length c] 24)).heap.size (w.alloc (.cells #[.string a, .string b, .slice pa l.length c] 24))).alloc (Nat.le_refl _) (.cells #[.string n] 9)
  have hm2 := hm1.below hst2
  have hb2 := Bt hst1 hst2
  have hs2 := hsl.below hb2
  have hbx : ((w.alloc (.cells #[.string a, .string b, .slice pa l.length c] 24)).alloc (.cells #[.string n] 9)).heap[w.heap.size + 1]? = some (.cells #[.string n] 9 (0, 0)) := by
    have := heap_alloc_new (w.alloc (.cells #[.string a, .string b, .slice pa l.length c] 24)) (.cells #[.string n] 9)
    rw [World.size_alloc] at this
    exact this
  have cI := Lib.hid (items_IndexFunc2 pa c l 25 #[.pointer (some ⟨w.heap.size + 1, 0, none⟩)] (fun x => decide (x.name = n)) _ hs2 hl (enters_of Tryz.func25 (by kernel_rfl) rfl) (fun W x _ hW => param_fn _ n _ hbx W x hW))
  have hw := find_ways l n
  have hmf : ∀ (fn : Fn) (first cap : Array Value) (w : World), (Instr.makeFunc fn first cap).run Tryz.prog w = .ok (.func fn first cap) w := fun _ _ _ _ => rfl
  obtain ⟨_, _, k2⟩ := hm2.cells
  clear hbx hst1 hst2 hm1
  rcases hw with ⟨hi, hp⟩ | ⟨i, x, hi, hx, hp⟩
  · rw [hi] at cI
    have HP := Lib.hid hp
    clear hp hi
    go_enter Tryz.func8, Tryz.ntmps8
    go_wp2_with fail
    refine cI.out.mono ?_
    rintro e w3 ⟨rfl, hb3⟩
    have hb4 := Bt hb2 hb3
    go_wp2_with fail
    go_ret2
    exact ⟨hb4, .inl ⟨HP.out, rfl⟩⟩
  · rw [hi] at cI
    have HP := Lib.hid hp
    have hil := (List.getElem?_eq_some_iff.1 hx).1
    have hiI : (i : Int) < (l.length : Int) := by omega
    have HX := Lib.hid hx
    clear hp hi hx
    go_enter Tryz.func8, Tryz.ntmps8
    go_wp2_with fail
    refine cI.out.mono ?_
    rintro e w3 ⟨rfl, hb3⟩
    have hb4 := Bt hb2 hb3
    obtain ⟨q, off, rfl, hq, d0, d1, d2⟩ := (hs2.below hb3) i x HX.out
    obtain ⟨_, _, k2⟩ := (hm2.below hb3).cells
    clear hs2 hm2
    go_wp2_with fail
    go_ret2
    exact ⟨hb4, .inr ⟨_, HP.out, rfl⟩⟩
set_option maxHeartbeats 1600000 in
set_option maxRecDepth 100000 in
theorem ref17_ParamSl (a b n : ByteArray) (pa : Option Addr) (c : Nat) (l : List It) (w : World) (hsl : ItemsSl w pa l) (hl : l.length ≤ 16777216) :
    Calls Tryz.prog 9 #[.agg #[.string a, .string b, .slice pa l.length c], .string n] w fun e w' => Below w.heap.size w w' ∧ ((paramM l n = none ∧ e = .returned (.tuple #[.string ⟨#[]⟩, .bool false])) ∨ (∃ v, paramM l n = some v ∧ e = .returned (.tuple #[.string v, .bool true]))) := by
  have hm1 : MediaAt (w.alloc (.cells #[.string a, .string b, .slice pa l.length c] 24)) w.heap.size a b pa l.length c := MediaAt.new
  have hst1 := (Below.refl w.heap.size w).alloc (Nat.le_refl _) (.cells #[.string a, .string b, .slice pa l.length c] 24)
  have hs1 := hsl.below hst1
  obtain ⟨_, _, k2⟩ := hm1.cells
  clear hm1 hsl
  go_enter Tryz.func9, Tryz.ntmps9
  go_wp2_with fail
  go_loopw [6] (fun x wr => ∃ i : Nat, i ≤ l.length ∧ x = .int .i64 i ∧ (w.alloc (.cells #[.string a, .string b, .slice pa l.length c] 24)) = wr ∧ ∀ (j : Nat) (y : It), j < i → l[j]? = some y → y.name ≠ n) (fun x _ => l.length - (intOf x).toNat)
  case atStart => exact ⟨0, Nat.zero_le _, rfl, rfl, fun j y h => by omega⟩
  case round =>
    obtain ⟨i, hil, rfl, rfl, hall⟩ := hrel
    have HA := Lib.hid hall
    clear hall
    by_cases hlt : i < l.length
    · obtain ⟨x, hx⟩ : ∃ x, l[i]? = some x := ⟨_, List.getElem?_eq_getElem hlt⟩
      have hiI : (i : Int) < (l.length : Int) := by omega
      have hnx : x.name ≠ n → ∀ (j : Nat) (z : It), j < i + 1 → l[j]? = some z → z.name ≠ n := fun h j z hj hz => by
        by_cases hjk : j = i
        · subst hjk; rw [hx] at hz; cases hz; exact h
        · exact HA.out j z (by omega) hz
      have hfo := fun h => paramM_some hx h HA.out
      have HNX := Lib.hid hnx
      have HFO := Lib.hid hfo
      obtain ⟨p, off, rfl, hp, d0, d1, _⟩ := hs1 i x hx
      have he : (x.name.toList == n.toList) = decide (x.name = n) := str_eqB _ _
      clear hnx hfo hx hs1
      obtain ⟨xn, xv, xh⟩ := x
      by_cases hyx : xn = n
      · have HX := Lib.hid (HFO.out hyx)
        rw [decide_eq_true hyx] at he
        clear hyx HNX HFO
        go_wp2_with fail
        go_ret2
        exact ⟨hst1, .inr ⟨xv, HX.out, rfl⟩⟩
      · have HX := Lib.hid (HNX.out hyx)
        rw [decide_eq_false hyx] at he
        clear hyx HNX HFO
        go_wp2_with fail
        go_roundw
        case rel => exact ⟨i + 1, by omega, by go_num, by first | rfl | trivial, HX.out⟩
        case measure => simp [intOf]; omega
    · obtain rfl : i = l.length := by omega
      have HX := Lib.hid (paramM_none HA.out)
      go_wp2_with fail
      go_ret2
      exact ⟨hst1, .inl ⟨HX.out, rfl⟩⟩
end Go.Proofs.YtndppcklpcfikaaGreatDoor

/- waybilllaw17.great: is a kind of content more than is looked at? -/
namespace Go.Proofs.YtndppcklpcfikaaGreatDoor
open Go.RowKit

def greatM (a b : ByteArray) (l : List It) : Bool := decide (30 < l.length) || (decide (300 < a.size) || (decide (300 < b.size) || l.any fun x => decide (300 < x.name.size) || decide (300 < x.value.size)))
theorem greatM_no {a b : ByteArray} {l : List It} (h : greatM a b l = false) : l.length ≤ 30 ∧ a.size ≤ 300 ∧ b.size ≤ 300 ∧ ∀ x ∈ l, x.name.size ≤ 300 ∧ x.value.size ≤ 300 := by
  unfold greatM at h
  simp only [Bool.or_eq_false_iff, decide_eq_false_iff_not, List.any_eq_false, Bool.or_eq_true, decide_eq_true_eq, not_or] at h
  obtain ⟨h1, h2, h3, h4⟩ := h
  exact ⟨by omega, by omega, by omega, fun x hx => by have := h4 x hx; omega⟩
theorem greatM_l {a b : ByteArray} {l : List It} (h : 30 < l.length) : greatM a b l = true := by unfold greatM; simp [h]
theorem greatM_a {a b : ByteArray} {l : List It} (h : 300 < a.size) : greatM a b l = true := by unfold greatM; simp [h]
theorem greatM_b {a b : ByteArray} {l : List It} (h : 300 < b.size) : greatM a b l = true := by unfold greatM; simp [h]
theorem greatM_any {a b : ByteArray} {l : List It} {x : It} (hx : x ∈ l) (h : 300 < x.name.size ∨ 300 < x.value.size) : greatM a b l = true := by
  have : (l.any fun x => decide (300 < x.name.size) || decide (300 < x.value.size)) = true := by
    rw [List.any_eq_true]
    exact ⟨x, hx, by rcases h with h | h <;> simp [h]⟩
  unfold greatM
  rw [this]; simp
theorem greatM_all {a b : ByteArray} {l : List It} (h1 : l.length ≤ 30) (h2 : a.size ≤ 300) (h3 : b.size ≤ 300) (h : ∀ (j : Nat) (y : It), j < l.length → l[j]? = some y → y.name.size ≤ 300 ∧ y.value.size ≤ 300) : greatM a b l = false := by
  have : (l.any fun x => decide (300 < x.name.size) || decide (300 < x.value.size)) = false := by
    rw [List.any_eq_false]
    intro x hx
    obtain ⟨j, hj, rfl⟩ := List.mem_iff_getElem.1 hx
    have := h j _ hj (List.getElem?_eq_getElem hj)
    simp; omega
  unfold greatM
  rw [this]
  simp; omega
set_option maxHeartbeats 1600000 in
set_option maxRecDepth 100000 in
theorem great17 (a b : ByteArray) (pa : Option Addr) (pc : Nat) (l : List It) (w : World) (hsl : ItemsSl w pa l) (ha : a.size ≤ maxLen) (hb : b.size ≤ maxLen) (hz : ∀ x ∈ l, x.name.size ≤ maxLen ∧ x.value.size ≤ maxLen) (hl : l.length ≤ maxLen) :
    Calls Tryz.prog 7 #[.agg #[.string a, .string b, .slice pa l.length pc]] w fun e w' => e = .returned (.bool (greatM a b l)) ∧ Below w.heap.size w w' := by
  unfold maxLen at hl ha hb
  have hm1 : MediaAt (w.alloc (.cells #[.string a, .string b, .slice pa l.length pc] 24)) w.heap.size a b pa l.length pc := MediaAt.new
  have hst1 := (Below.refl w.heap.size w).alloc (Nat.le_refl _) (.cells #[.string a, .string b, .slice pa l.length pc] 24)
  have hs1 := hsl.below hst1
  obtain ⟨k0, k1, k2⟩ := hm1.cells
  clear hm1 hsl
  by_cases g1 : 30 < l.length
  · have HG := Lib.hid (greatM_l (a := a) (b := b) g1)
    have gI : (l.length : Int) > 30 := by omega
    clear g1
    go_enter Tryz.func7, Tryz.ntmps7
    go_wp2_with fail
    go_ret
    exact ⟨ret_bool HG.out.symm, hst1⟩
  have gI1 : ¬ (l.length : Int) > 30 := by omega
  by_cases g2 : 300 < a.size
  · have HG := Lib.hid (greatM_a (b := b) (l := l) g2)
    have gI : (a.size : Int) > 300 := by omega
    clear g2
    go_enter Tryz.func7, Tryz.ntmps7
    go_wp2_with fail
    go_ret
    exact ⟨ret_bool HG.out.symm, hst1⟩
  have gI2 : ¬ (a.size : Int) > 300 := by omega
  by_cases g3 : 300 < b.size
  · have HG := Lib.hid (greatM_b (a := a) (l := l) g3)
    have gI : (b.size : Int) > 300 := by omega
    clear g3
    go_enter Tryz.func7, Tryz.ntmps7
    go_wp2_with fail
    go_ret
    exact ⟨ret_bool HG.out.symm, hst1⟩
  have gI3 : ¬ (b.size : Int) > 300 := by omega
  have HN := Lib.hid (fun h => greatM_all (a := a) (b := b) (l := l) (by omega) (by omega) (by omega) h)
  have HY := Lib.hid (fun x hx h => greatM_any (a := a) (b := b) (l := l) (x := x) hx h)
  have HZ := Lib.hid hz
  have HSL := Lib.hid hs1
  have hl3 : l.length ≤ 30 := by omega
  clear hz hs1 g1 g2 g3
  generalize greatM a b l = gr at *
  go_enter Tryz.func7, Tryz.ntmps7
  go_wp2_with fail
  go_loopw [24] (fun x wr => ∃ i : Nat, i ≤ l.length ∧ x = .int .i64 i ∧ Below w.heap.size w wr ∧ Below (w.alloc (.cells #[.string a, .string b, .slice pa l.length pc] 24)).heap.size (w.alloc (.cells #[.string a, .string b, .slice pa l.length pc] 24)) wr ∧ ∀ (j : Nat) (p : It), j < i → l[j]? = some p → p.name.size ≤ 300 ∧ p.value.size ≤ 300) (fun x _ => l.length - (intOf x).toNat)
  case atStart => exact ⟨0, Nat.zero_le _, rfl, hst1, Below.refl _ _, fun j y h => by omega⟩
  case round =>
    obtain ⟨i, hil, rfl, hbr, hbr2, hall⟩ := hrel
    have HA := Lib.hid hall
    clear hall
    by_cases hlt : i < l.length
    · obtain ⟨p, hx⟩ : ∃ p, l[i]? = some p := ⟨_, List.getElem?_eq_getElem hlt⟩
      obtain ⟨b, off, rfl, hb, d0, d1, d2⟩ := (HSL.out.below hbr2) i p hx
      have hpm := List.mem_of_getElem? hx
      have hyes := fun h => HY.out p hpm h
      have hst : p.name.size ≤ 300 → p.value.size ≤ 300 → ∀ (j : Nat) (y : It), j < i + 1 → l[j]? = some y → y.name.size ≤ 300 ∧ y.value.size ≤ 300 := fun h1 h2 j y hj hy => by
        by_cases hji : j = i
        · subst hji; rw [hx] at hy; cases hy; exact ⟨h1, h2⟩
        · exact HA.out j y (by omega) hy
      obtain ⟨hz1, hz2⟩ := HZ.out p hpm
      unfold maxLen at hz1 hz2
      have HYY := Lib.hid hyes
      have HS := Lib.hid hst
      obtain ⟨pn, pv, ph⟩ := p
      dsimp only at hz1 hz2
      have hiI : (i : Int) < (l.length : Int) := by omega
      have hstA : Below wr.heap.size wr (wr.alloc (.cells #[.string pn, .string pv, .bool ph] 37)) := (Below.refl _ _).alloc (Nat.le_refl _) _
      have hbA := Bt hbr hstA
      have hbA2 := hbr2.trans (hstA.mono hbr2.size)
      clear hyes hst hx HA hpm k0 k1 k2
      by_cases h1 : 300 < pn.size
      · have HG := Lib.hid (HYY.out (.inl h1))
        have h1I : (pn.size : Int) > 300 := by omega
        go_wp2_with fail
        go_ret
        exact ⟨ret_bool HG.out.symm, hbA⟩
      · have h1I : ¬ (pn.size : Int) > 300 := by omega
        by_cases h2 : 300 < pv.size
        · have HG := Lib.hid (HYY.out (.inr h2))
          have h2I : (pv.size : Int) > 300 := by omega
          go_wp2_with fail
          go_ret
          exact ⟨ret_bool HG.out.symm, hbA⟩
        · have h2I : ¬ (pv.size : Int) > 300 := by omega
          have HX := Lib.hid (HS.out (by dsimp only; omega) (by dsimp only; omega))
          clear HS HYY
          go_wp2_with fail
          go_roundw
          case rel => exact ⟨i + 1, by omega, by go_num, hbA, hbA2, HX.out⟩
          case measure => simp [intOf]; omega
    · obtain rfl : i = l.length := by omega
      have HX := Lib.hid (HN.out HA.out)
      go_wp2_with fail
      go_ret
      exact ⟨ret_bool HX.out.symm, hbr⟩
end Go.Proofs.YtndppcklpcfikaaGreatDoor

/- sync.Once in one goroutine: Do, not yet done, the lock free. -/
namespace Go.Proofs.YtndppcklpcfikaaGreatDoor
open Go.RowKit

theorem o_disable (w : World) : (callFunc 101 #[]).run Tryz.prog w = .ok (.value (.tuple #[])) w := run_call_mark0 Tryz.func101 (by kernel_rfl) (by kernel_rfl) (by kernel_rfl) .disable (by kernel_rfl) w
theorem o_enable (w : World) : (callFunc 103 #[]).run Tryz.prog w = .ok (.value (.tuple #[])) w := run_call_mark0 Tryz.func103 (by kernel_rfl) (by kernel_rfl) (by kernel_rfl) .enable (by kernel_rfl) w
theorem o_acquire (a : Addr) (w : World) : (callFunc 104 #[.pointer (some a)]).run Tryz.prog w = .ok (.value (.tuple #[])) w := run_call_marked Tryz.func104 (by kernel_rfl) (by kernel_rfl) (by kernel_rfl) .acquire (by kernel_rfl) a w
theorem o_release (a : Addr) (w : World) : (callFunc 106 #[.pointer (some a)]).run Tryz.prog w = .ok (.value (.tuple #[])) w := run_call_marked Tryz.func106 (by kernel_rfl) (by kernel_rfl) (by kernel_rfl) .releaseMerge (by kernel_rfl) a w
set_option maxRecDepth 100000 in
set_option maxHeartbeats 1600000 in
theorem o_load (a : Addr) (w : World) (h : w.cell? a = some (.int .u32 0)) : Calls Tryz.prog 74 #[.pointer (some a)] w fun e w' => e = .returned (.bool false) ∧ w' = w := by
  have hl := run_call_load (P := Tryz.prog) Tryz.func82 (by kernel_rfl) (by kernel_rfl) (by kernel_rfl) .u32 (by kernel_rfl) h
  go_enter Tryz.func74, Tryz.ntmps74
  go_wp2
  go_ret
  exact ⟨rfl, rfl⟩
set_option maxRecDepth 100000 in
set_option maxHeartbeats 1600000 in
theorem o_store (a : Addr) (x : Value) (u : FrameMode) (w : World) (hc : w.cell? a = some x) (hz : w.frozen? a = false) :
    CallsD Tryz.prog 85 #[.pointer (some a), .bool true] u w fun e u' w' => u' = u ∧ (e = .returned (.tuple #[]) ∧ w' = w.drew.setCell a (.int .u32 1)) := by
  have hc' : w.drew.cell? a = some x := by go_simp
  have hz' : w.drew.frozen? a = false := by go_simp
  have hst := run_call_store (P := Tryz.prog) Tryz.func94 (by kernel_rfl) (by kernel_rfl) (by kernel_rfl) (by kernel_rfl) (k := .u32) (y := 1) hc' hz'
  go_enter_d Tryz.func85, Tryz.ntmps85
  go_wp2
  go_region_calls
  all_goals (go_end0; exact ⟨rfl, rfl⟩)
set_option maxRecDepth 100000 in
set_option maxHeartbeats 1600000 in
theorem o_unlock (a : Addr) (u : FrameMode) (w : World) (hc : w.cell? a = some (.int .i32 1)) (hz : w.frozen? a = false) :
    CallsD Tryz.prog 84 #[.pointer (some a)] u w fun e u' w' => u' = u ∧ (e = .returned (.tuple #[]) ∧ w' = w.setCell a (.int .i32 0)) := by
  have hd := o_disable
  have he := o_enable
  have hr := o_release
  have hadd := run_call_add (P := Tryz.prog) Tryz.func107 (by kernel_rfl) (by kernel_rfl) (by kernel_rfl) .i32 (by kernel_rfl) (y := -1) (s := 0) hc hz (by simp [go_sem]; rfl)
  have hcv := run_convert_to_unsafe (P := Tryz.prog) (src := 180) (dst := 77) Tryz.underlying180 Tryz.underlying77 (by kernel_rfl) hc
  go_enter_d Tryz.func84, Tryz.ntmps84
  go_wp2
  go_end0
  go_wp2
  go_end0
  exact ⟨rfl, rfl⟩
set_option maxRecDepth 100000 in
set_option maxHeartbeats 1600000 in
theorem o_lock (a : Addr) (w : World) (hc : w.cell? a = some (.int .i32 0)) (hz : w.frozen? a = false) :
    Calls Tryz.prog 83 #[.pointer (some a)] w fun e w' => e = .returned (.tuple #[]) ∧ w' = w.setCell a (.int .i32 1) := by
  have hd := o_disable
  have he := o_enable
  have ha := o_acquire
  have hcas := run_call_cas_hit (P := Tryz.prog) Tryz.func102 (by kernel_rfl) (by kernel_rfl) (by kernel_rfl) .i32 (by kernel_rfl) (y := 1) hc hz
  have hc' : (w.setCell a (.int .i32 1)).cell? a = some (.int .i32 1) := World.cell?_setCell_same w a _ hc
  have hcv := run_convert_to_unsafe (P := Tryz.prog) (src := 180) (dst := 77) Tryz.underlying180 Tryz.underlying77 (by kernel_rfl) hc'
  go_enter Tryz.func83, Tryz.ntmps83
  go_wp2
  first | go_end0 | (simp only [Exit.inBlock, Exit.then]; refine bodyPost_ret (results_none rfl _ _ _) rfl ?_) | refine bodyPost_ret (results_none rfl _ _ _) rfl ?_
  go_wp2
  go_end0
  exact ⟨rfl, rfl⟩
/-- What the function leaves that is handed to Do: the Once as it found it, locked. -/
structure OnceHeld (b : Nat) (w : World) : Prop where
  done : w.cell? ⟨b, 0, none⟩ = some (.int .u32 0)
  lock : w.cell? ⟨b, 1, none⟩ = some (.int .i32 1)
  z0 : w.frozen? ⟨b, 0, none⟩ = false
  z1 : w.frozen? ⟨b, 1, none⟩ = false
set_option maxRecDepth 100000 in
set_option maxHeartbeats 1600000 in
theorem o_slow (b : Nat) (F : FuncId) (r : Value) (w : World) (K : World → Prop) (eg : ∀ args w, (callFunc F args).run Tryz.prog w = .ok (.enter F args) w)
    (h0 : w.cell? ⟨b, 0, none⟩ = some (.int .u32 0)) (h1 : w.cell? ⟨b, 1, none⟩ = some (.int .i32 0)) (f1 : w.frozen? ⟨b, 1, none⟩ = false)
    (hF : Calls Tryz.prog F #[r] (w.setCell ⟨b, 1, none⟩ (.int .i32 1)) fun e w' => e = .returned (.tuple #[]) ∧ K w') (hK : ∀ w', K w' → OnceHeld b w') :
    Calls Tryz.prog 75 #[.pointer (some ⟨b, 0, none⟩), .func (.func F) #[r] #[]] w fun e w' => e = .returned (.tuple #[]) ∧ ∃ w1, K w1 ∧ w' = (w1.setCell ⟨b, 0, none⟩ (.int .u32 1)).drew.setCell ⟨b, 1, none⟩ (.int .i32 0) := by
  have h01 : (w.setCell ⟨b, 1, none⟩ (.int .i32 1)).cell? ⟨b, 0, none⟩ = some (.int .u32 0) := (World.cell?_setCell_other _ ⟨b, 1, none⟩ ⟨b, 0, none⟩ _ (by simp)).trans h0
  have hF' := Lib.hid hF
  have hK' := Lib.hid hK
  clear hF hK
  go_enter_defers Tryz.func75, Tryz.ntmps75
  go_wp2_with fail
  refine (o_lock ⟨b, 1, none⟩ _ h1 f1).mono ?_
  rintro e w2 ⟨rfl, rfl⟩
  go_wp2_with fail
  refine (o_load ⟨b, 0, none⟩ _ h01).mono ?_
  rintro e w2 ⟨rfl, rfl⟩
  go_wp2_with fail
  refine hF'.out.mono ?_
  rintro e w3 ⟨rfl, hk⟩
  have hh := hK'.out w3 hk
  obtain ⟨d0, d1, z0, z1⟩ := hh
  go_wp2
  refine leaves_cons (f := 85) (args := #[.pointer (some ⟨b, 0, none⟩), .bool true]) (by simp) (by simp [go_sem]) ?_
  refine (o_store ⟨b, 0, none⟩ (.int .u32 0) .returning _ d0 z0).mono ?_
  rintro e u' w'' ⟨rfl, rfl, rfl⟩
  refine leaves_cons (f := 84) (args := #[.pointer (some ⟨b, 1, none⟩)]) (by simp [settle]) (by simp [go_sem]) ?_
  refine (o_unlock ⟨b, 1, none⟩ _ _ ?_ ?_).mono ?_
  · exact (World.cell?_setCell_other _ ⟨b, 0, none⟩ ⟨b, 1, none⟩ _ (by simp)).trans (by rw [World.cell?_drew]; exact d1)
  · simp [z1]
  rintro e u' w'' ⟨rfl, rfl, rfl⟩
  simp [Leaves, settle, results, Tryz.results75]
  exact ⟨w3, hk, rfl⟩
set_option maxRecDepth 100000 in
set_option maxHeartbeats 1600000 in
/-- Do, the first time. -/
theorem once_Do (b : Nat) (F : FuncId) (r : Value) (w : World) (K : World → Prop) (eg : ∀ args w, (callFunc F args).run Tryz.prog w = .ok (.enter F args) w)
    (h0 : w.cell? ⟨b, 0, none⟩ = some (.int .u32 0)) (h1 : w.cell? ⟨b, 1, none⟩ = some (.int .i32 0)) (f1 : w.frozen? ⟨b, 1, none⟩ = false)
    (hF : Calls Tryz.prog F #[r] (w.setCell ⟨b, 1, none⟩ (.int .i32 1)) fun e w' => e = .returned (.tuple #[]) ∧ K w') (hK : ∀ w', K w' → OnceHeld b w') :
    Calls Tryz.prog 62 #[.pointer (some ⟨b, 0, none⟩), .func (.func F) #[r] #[]] w fun e w' => e = .returned (.tuple #[]) ∧ ∃ w1, K w1 ∧ w' = (w1.setCell ⟨b, 0, none⟩ (.int .u32 1)).drew.setCell ⟨b, 1, none⟩ (.int .i32 0) := by
  have cS := Lib.hid (o_slow b F r w K eg h0 h1 f1 hF hK)
  clear hF hK
  go_enter Tryz.func62, Tryz.ntmps62
  go_wp2_with fail
  refine (o_load ⟨b, 0, none⟩ _ h0).mono ?_
  rintro e w2 ⟨rfl, rfl⟩
  go_wp2_with fail
  refine cS.out.mono ?_
  rintro e w2 ⟨rfl, h⟩
  go_wp2_with fail
  go_end0
  exact ⟨rfl, h⟩
end Go.Proofs.YtndppcklpcfikaaGreatDoor

/- Rows of strings of a call's own; two rows of strings held against each other; is a string among them. -/
namespace Go.Proofs.YtndppcklpcfikaaGreatDoor
open Go.RowKit

theorem info_strS : (Tryz.prog.info? 9).map (fun i => (i.zero, i.size, i.bytes)) = some (some (.string ByteArray.empty), 1, 16) := by kernel_rfl
def OwnS (w : World) (base : Nat) (v : Value) (l : List ByteArray) : Prop := w.ownsRow base 9 1 v l.length (l.map strV)
theorem OwnS.below {w w' : World} {base : Nat} {v : Value} {l : List ByteArray} (h : OwnS w base v l) (hb : Below w.heap.size w w') : OwnS w' base v l := ownsRow_below h hb
theorem OwnS.drewN {w : World} {base : Nat} {v : Value} {l : List ByteArray} (h : OwnS w base v l) (m : Nat) : OwnS (w.drewN m) base v l := h
theorem OwnS.nil (w : World) (base : Nat) : OwnS w base (.slice none 0 0) [] := World.ownsRow_nil _ _ _ _
theorem OwnS.lit0 (w : World) (base : Nat) (hb : base ≤ w.heap.size) : OwnS (w.alloc (.cells #[] 9)) base (.slice (some ⟨w.heap.size, 0, none⟩) 0 0) [] :=
  World.ownsRow_lit w #[] 0 hb (Nat.zero_le _) rfl
theorem OwnS.under {w0 w w' : World} {base : Nat} {v : Value} {l : List ByteArray} (h : OwnS w base v l) (hb : Below w0.heap.size w0 w) (hB : w0.heap.size ≤ base) (hg : w.grownBy w' v.ownBlock) : Below w0.heap.size w0 w' :=
  hb.grown hg hb.size (fun j hj => Nat.le_trans hB (World.ownsRow.lt h j hj).1)
theorem OwnS.sl {w : World} {base : Nat} {v : Value} {l : List ByteArray} (h : OwnS w base v l) : ∃ a c, v = .slice a l.length c ∧ l.length ≤ c ∧ c ≤ maxLen ∧ RowSl w a (l.map strV) := by
  have := row_sl h (by simp)
  simpa using this
theorem wpList_app_str {w : World} {ops : Array Oper} {rest : List Oper} {o : Oper} {a : Act} {Q : Exit → Act → World → Prop} (hgd : o.guard = none) (s x : Operand) (ho : o.op = .call { callee := .builtin .append, args := #[s, x], argTypes := #[91, 91] })
    (base : Nat) (v : Value) (l : List ByteArray) (hs : a.eval s = v) (hown : OwnS w base v l) (g c : Nat) (p : ByteArray) (hx : a.eval x = .slice (some ⟨g, 0, none⟩) 1 c) (hb : w.heap[g]? = some (.cells #[.string p] 9 (0, 0)))
    (hl : l.length ≤ 1073741824) (hbase : base ≤ w.heap.size)
    (h : ∀ v' w', OwnS w' base v' (l ++ [p]) → w.grownBy w' v.ownBlock → wpList Tryz.prog ops Q rest (a.put o.dst v') w') : wpList Tryz.prog ops Q (o :: rest) a w := by
  obtain ⟨i, hi, hz, hsize, hby⟩ := info_parts info_strS
  refine wpList_append_own _ hgd s x 91 ho base 9 i _ 1 16 Tryz.underlying91 hi hz hsize hby rfl (by decide) v _ _ hs hown _ 1 c [strV p] hx rfl ?_ ?_ (by unfold maxLen; omega) (by omega) hbase ?_
  · intro j u hj
    match j, hj with
    | 0, hj =>
      simp at hj; subst hj
      rw [Addr.add_lit, Nat.zero_add, cell_of_row w g 0 _ _ _ hb]
      rfl
  · intro u hu; simp at hu; subst hu; rfl
  · intro v' w' h1 h2 _
    refine h v' w' ?_ h2
    unfold OwnS
    rw [List.length_append, List.map_append]
    exact h1
theorem RowSl.strs {w : World} {a : Option Addr} {l : List ByteArray} (h : RowSl w a (l.map strV)) (hne : 0 < l.length) : ∃ b, a = some ⟨b, 0, none⟩ ∧ b < w.heap.size ∧ ∀ j, j < l.length → w.cell? ⟨b, 0 + j, none⟩ = some (.string (l.getD j ByteArray.empty)) := by
  obtain ⟨x, hx⟩ : ∃ x, l[0]? = some x := ⟨_, List.getElem?_eq_getElem hne⟩
  obtain ⟨b, rfl, hb, _⟩ := h 0 (strV x) (by rw [List.getElem?_map, hx]; rfl)
  refine ⟨b, rfl, hb, fun j hj => ?_⟩
  obtain ⟨b', e, _, hc⟩ := h j (strV l[j]) (by rw [List.getElem?_map, List.getElem?_eq_getElem hj]; rfl)
  cases e
  rw [Nat.zero_add, hc]
  simp [strV, List.getD, hj]
end Go.Proofs.YtndppcklpcfikaaGreatDoor
