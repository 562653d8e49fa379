/- slices.IndexFunc, of rows of what subst has. -/
import Derived.Test.YtkgifenidmbdkaaGreatDoorSubstMatchesM6
import Derived.Test.YtkgifenidmbdkaaGreatDoorSubstMatchesM1
import Derived.Test.YtkgifenidmbdkaaGreatDoorSubstMatchesM5
import Derived.Laws.ResultCell
import Derived.Laws.Tables

namespace Go.Proofs.YtkgifenidmbdkaaGreatDoor
open Go.RowKit

def findG {α : Type} (P : α → Bool) (l : List α) : Int := match l.findIdx? P with | some i => (i : Int) | none => -1
theorem findG_hit {α : Type} {P : α → Bool} {l : List α} {i : Nat} {x : α} (hx : l[i]? = some x) (h : P x = true) (hall : ∀ (j : Nat) (y : α), j < i → l[j]? = some y → P y = false) : findG P l = (i : Int) := by
  have : l.findIdx? P = some i := by
    obtain ⟨hi, rfl⟩ := List.getElem?_eq_some_iff.1 hx
    rw [List.findIdx?_eq_some_iff_getElem]
    exact ⟨hi, h, fun j hj => by rw [hall j _ hj (List.getElem?_eq_getElem (by omega))]; decide⟩
  unfold findG; rw [this]
theorem findG_none {α : Type} {P : α → Bool} {l : List α} (hall : ∀ (j : Nat) (y : α), l[j]? = some y → P y = false) : findG P l = -1 := by
  have : l.findIdx? P = none := by
    rw [List.findIdx?_eq_none_iff]
    intro x hx
    obtain ⟨j, hj⟩ := List.getElem?_of_mem hx
    exact hall j x hj
  unfold findG; rw [this]
/-- Rows of classes, of variables, of numbers, from an offset of a block on. -/
def ClsAt (w : World) (b off : Nat) (l : List (ByteArray × ByteArray × Nat)) : Prop := b < w.heap.size ∧ ∀ (i : Nat) x, l[i]? = some x → w.cell? ⟨b, off + i * 3, none⟩ = some (.string x.1) ∧ w.cell? ⟨b, off + i * 3 + 1, none⟩ = some (.string x.2.1) ∧ w.cell? ⟨b, off + i * 3 + 2, none⟩ = some (.int .i64 (x.2.2 : Nat))
theorem ClsAt.below {w w' : World} {b off : Nat} {l : List (ByteArray × ByteArray × Nat)} (h : ClsAt w b off l) (hb : Below w.heap.size w w') : ClsAt w' b off l :=
  ⟨Nat.lt_of_lt_of_le h.1 hb.size, fun i x hx => ⟨(hb.cell (p := ⟨b, _, none⟩) h.1).trans (h.2 i x hx).1, (hb.cell (p := ⟨b, _, none⟩) h.1).trans (h.2 i x hx).2.1, (hb.cell (p := ⟨b, _, none⟩) h.1).trans (h.2 i x hx).2.2⟩⟩
def NumAt (w : World) (b off : Nat) (l : List Nat) : Prop := b < w.heap.size ∧ ∀ (i : Nat) x, l[i]? = some x → w.cell? ⟨b, off + i, none⟩ = some (.int .i64 (x : Int))
theorem NumAt.below {w w' : World} {b off : Nat} {l : List Nat} (h : NumAt w b off l) (hb : Below w.heap.size w w') : NumAt w' b off l :=
  ⟨Nat.lt_of_lt_of_le h.1 hb.size, fun i x hx => (hb.cell (p := ⟨b, _, none⟩) h.1).trans (h.2 i x hx)⟩
/-- A slice of strings that lies anywhere: what a variable's values are. -/
def StrsV (w : World) (v : Value) (l : List ByteArray) : Prop := ∃ (a : Option Addr) (cap : Nat), v = .slice a l.length cap ∧ l.length ≤ cap ∧ ∀ (i : Nat) s, l[i]? = some s → ∃ b off, a = some ⟨b, off, none⟩ ∧ b < w.heap.size ∧ w.cell? ⟨b, off + i, none⟩ = some (.string s)
theorem StrsV.below {w w' : World} {v : Value} {l : List ByteArray} (h : StrsV w v l) (hb : Below w.heap.size w w') : StrsV w' v l := by
  obtain ⟨a, cap, e, hc, h⟩ := h
  refine ⟨a, cap, e, hc, fun i s hs => ?_⟩
  obtain ⟨b, off, e2, hlt, hcell⟩ := h i s hs
  exact ⟨b, off, e2, Nat.lt_of_lt_of_le hlt hb.size, (hb.cell (p := ⟨b, _, none⟩) hlt).trans hcell⟩
/-- A slice of variables that lies anywhere: names, and what lies behind them. -/
def VarSl (w : World) (a : Option Addr) (l : List (ByteArray × Value)) : Prop := ∀ (i : Nat) x, l[i]? = some x → ∃ b off, a = some ⟨b, off, none⟩ ∧ b < w.heap.size ∧ w.cell? ⟨b, off + i * 2, none⟩ = some (.string x.1) ∧ w.cell? ⟨b, off + i * 2 + 1, none⟩ = some x.2
theorem VarSl.below {w w' : World} {a : Option Addr} {l : List (ByteArray × Value)} (h : VarSl w a l) (hb : Below w.heap.size w w') : VarSl w' a l := by
  intro i v hv
  obtain ⟨b, off, e, hlt, h0, h1⟩ := h i v hv
  exact ⟨b, off, e, Nat.lt_of_lt_of_le hlt hb.size, (hb.cell (p := ⟨b, _, none⟩) hlt).trans h0, (hb.cell (p := ⟨b, _, none⟩) hlt).trans h1⟩
def VarsSl (w : World) (a : Option Addr) (l : List SVar) : Prop := ∃ us, VarSl w a us ∧ us.length = l.length ∧ ∀ (i : Nat) (v : SVar), l[i]? = some v → ∃ u, us[i]? = some (v.1, u) ∧ StrsV w u v.2
theorem VarsSl.below {w w' : World} {a : Option Addr} {l : List SVar} (h : VarsSl w a l) (hb : Below w.heap.size w w') : VarsSl w' a l := by
  obtain ⟨us, h1, h2, h3⟩ := h
  refine ⟨us, h1.below hb, h2, fun i v hv => ?_⟩
  obtain ⟨u, hu, hs⟩ := h3 i v hv
  exact ⟨u, hu, hs.below hb⟩
/-- A test that a closure makes of a list's elements, in whatever world lies behind w. -/
def TestCls (w : World) (f : FuncId) (caps : Array Value) (P : ByteArray × ByteArray × Nat → Bool) (l : List (ByteArray × ByteArray × Nat)) : Prop := ∀ (W : World) (x : ByteArray × ByteArray × Nat), x ∈ l → Below w.heap.size w W → Calls Tryz.prog f (#[.agg #[.string x.1, .string x.2.1, .int .i64 (x.2.2 : Nat)]] ++ caps) W fun e w' => e = .returned (.bool (P x)) ∧ Below W.heap.size W w'
set_option maxHeartbeats 1600000 in
set_option maxRecDepth 100000 in
theorem cls_IndexFunc (b off cap : Nat) (l : List (ByteArray × ByteArray × Nat)) (f : FuncId) (caps : Array Value) (P : ByteArray × ByteArray × Nat → Bool) (w : World) (hsl : ClsAt w b off l) (hl : l.length ≤ 16777216) (eg : ∀ args w, (callFunc f args).run Tryz.prog w = .ok (.enter f args) w) (hf : TestCls w f caps P l) :
    Calls Tryz.prog 110 #[.slice (some ⟨b, off, none⟩) l.length cap, .func (.func f) #[] caps] w fun e w' => e = .returned (.int .i64 (findG P l)) ∧ Below w.heap.size w w' := by
  have hF := Lib.hid hf
  clear hf
  go_enter Tryz.func110, Tryz.ntmps110
  go_wp2_with fail
  go_loopw [8] (fun x wr => ∃ i : Nat, i ≤ l.length ∧ x = .int .i64 i ∧ Below w.heap.size w wr ∧ ∀ (j : Nat) (y : ByteArray × ByteArray × Nat), j < i → l[j]? = some y → P y = false) (fun x _ => l.length - (intOf x).toNat)
  case atStart => exact ⟨0, Nat.zero_le _, rfl, Below.refl _ _, fun j y h => by omega⟩
  case round =>
    obtain ⟨i, hil, rfl, hbr, hall⟩ := hrel
    have HA := Lib.hid hall
    clear hall
    by_cases hlt : i < l.length
    · obtain ⟨x, hx⟩ : ∃ x, l[i]? = some x := ⟨_, List.getElem?_eq_getElem hlt⟩
      obtain ⟨d0, d1, d2⟩ := (hsl.below hbr).2 i x hx
      have hbw := (hsl.below hbr).1
      have hhit := fun h => findG_hit hx h HA.out
      have hst : P x = false → ∀ (j : Nat) (y : ByteArray × ByteArray × Nat), j < i + 1 → l[j]? = some y → P y = false := fun h j y hj hy => by
        by_cases hji : j = i
        · subst hji; rw [hx] at hy; cases hy; exact h
        · exact HA.out j y (by omega) hy
      have HHIT := Lib.hid hhit
      have HST := Lib.hid hst
      have cF := Lib.hid (hF.out wr x (List.mem_of_getElem? hx) hbr)
      obtain ⟨xn, xa, xz⟩ := x
      simp only at d0 d1 d2
      have hiI : (i : Int) < (l.length : Int) := by omega
      clear hhit hst hx HA hF
      generalize P _ = r at *
      go_wp2_with fail
      refine cF.out.mono ?_
      rintro e w2 ⟨rfl, hb2⟩
      have hbr2 := Bt hbr hb2
      cases r
      · have HX := Lib.hid (HST.out rfl)
        go_wp2_with fail
        go_roundw
        case rel => exact ⟨i + 1, by omega, by go_num, hbr2, HX.out⟩
        case measure => simp [intOf]; omega
      · have HX := Lib.hid (HHIT.out rfl)
        go_wp2_with fail
        go_ret
        exact ⟨ret_i64 HX.out.symm, hbr2⟩
    · obtain rfl : i = l.length := by omega
      have hn : findG P l = -1 := findG_none fun j y hy => HA.out j y (List.getElem?_eq_some_iff.1 hy).1 hy
      have HN := Lib.hid hn
      clear hn
      go_wp2_with fail
      go_ret
      exact ⟨ret_i64 HN.out.symm, hbr⟩
/-- A test that a closure makes of a list's elements, in whatever world lies behind w. -/
def TestNum (w : World) (f : FuncId) (caps : Array Value) (P : Nat → Bool) (l : List (Nat)) : Prop := ∀ (W : World) (x : Nat), x ∈ l → Below w.heap.size w W → Calls Tryz.prog f (#[.int .i64 (x : Int)] ++ caps) W fun e w' => e = .returned (.bool (P x)) ∧ Below W.heap.size W w'
set_option maxHeartbeats 1600000 in
set_option maxRecDepth 100000 in
theorem num_IndexFunc (b off cap : Nat) (l : List (Nat)) (f : FuncId) (caps : Array Value) (P : Nat → Bool) (w : World) (hsl : NumAt w b off l) (hl : l.length ≤ 16777216) (eg : ∀ args w, (callFunc f args).run Tryz.prog w = .ok (.enter f args) w) (hf : TestNum w f caps P l) :
    Calls Tryz.prog 150 #[.slice (some ⟨b, off, none⟩) l.length cap, .func (.func f) #[] caps] w fun e w' => e = .returned (.int .i64 (findG P l)) ∧ Below w.heap.size w w' := by
  have hF := Lib.hid hf
  clear hf
  go_enter Tryz.func150, Tryz.ntmps150
  go_wp2_with fail
  go_loopw [8] (fun x wr => ∃ i : Nat, i ≤ l.length ∧ x = .int .i64 i ∧ Below w.heap.size w wr ∧ ∀ (j : Nat) (y : Nat), j < i → l[j]? = some y → P y = false) (fun x _ => l.length - (intOf x).toNat)
  case atStart => exact ⟨0, Nat.zero_le _, rfl, Below.refl _ _, fun j y h => by omega⟩
  case round =>
    obtain ⟨i, hil, rfl, hbr, hall⟩ := hrel
    have HA := Lib.hid hall
    clear hall
    by_cases hlt : i < l.length
    · obtain ⟨x, hx⟩ : ∃ x, l[i]? = some x := ⟨_, List.getElem?_eq_getElem hlt⟩
      have d0 := (hsl.below hbr).2 i x hx
      have hbw := (hsl.below hbr).1
      have hhit := fun h => findG_hit hx h HA.out
      have hst : P x = false → ∀ (j : Nat) (y : Nat), j < i + 1 → l[j]? = some y → P y = false := fun h j y hj hy => by
        by_cases hji : j = i
        · subst hji; rw [hx] at hy; cases hy; exact h
        · exact HA.out j y (by omega) hy
      have HHIT := Lib.hid hhit
      have HST := Lib.hid hst
      have cF := Lib.hid (hF.out wr x (List.mem_of_getElem? hx) hbr)
      skip
      have hiI : (i : Int) < (l.length : Int) := by omega
      clear hhit hst hx HA hF
      generalize P _ = r at *
      go_wp2_with fail
      refine cF.out.mono ?_
      rintro e w2 ⟨rfl, hb2⟩
      have hbr2 := Bt hbr hb2
      cases r
      · have HX := Lib.hid (HST.out rfl)
        go_wp2_with fail
        go_roundw
        case rel => exact ⟨i + 1, by omega, by go_num, hbr2, HX.out⟩
        case measure => simp [intOf]; omega
      · have HX := Lib.hid (HHIT.out rfl)
        go_wp2_with fail
        go_ret
        exact ⟨ret_i64 HX.out.symm, hbr2⟩
    · obtain rfl : i = l.length := by omega
      have hn : findG P l = -1 := findG_none fun j y hy => HA.out j y (List.getElem?_eq_some_iff.1 hy).1 hy
      have HN := Lib.hid hn
      clear hn
      go_wp2_with fail
      go_ret
      exact ⟨ret_i64 HN.out.symm, hbr⟩
/-- A test that a closure makes of a list's elements, in whatever world lies behind w. -/
def TestVar (w : World) (f : FuncId) (caps : Array Value) (P : ByteArray × Value → Bool) (l : List (ByteArray × Value)) : Prop := ∀ (W : World) (x : ByteArray × Value), x ∈ l → Below w.heap.size w W → Calls Tryz.prog f (#[.agg #[.string x.1, x.2]] ++ caps) W fun e w' => e = .returned (.bool (P x)) ∧ Below W.heap.size W w'
set_option maxHeartbeats 1600000 in
set_option maxRecDepth 100000 in
theorem var_IndexFunc (a : Option Addr) (cap : Nat) (l : List (ByteArray × Value)) (f : FuncId) (caps : Array Value) (P : ByteArray × Value → Bool) (w : World) (hsl : VarSl w a l) (hl : l.length ≤ 16777216) (eg : ∀ args w, (callFunc f args).run Tryz.prog w = .ok (.enter f args) w) (hf : TestVar w f caps P l) :
    Calls Tryz.prog 73 #[.slice a l.length cap, .func (.func f) #[] caps] w fun e w' => e = .returned (.int .i64 (findG P l)) ∧ Below w.heap.size w w' := by
  have hF := Lib.hid hf
  clear hf
  go_enter Tryz.func73, Tryz.ntmps73
  go_wp2_with fail
  go_loopw [8] (fun x wr => ∃ i : Nat, i ≤ l.length ∧ x = .int .i64 i ∧ Below w.heap.size w wr ∧ ∀ (j : Nat) (y : ByteArray × Value), j < i → l[j]? = some y → P y = false) (fun x _ => l.length - (intOf x).toNat)
  case atStart => exact ⟨0, Nat.zero_le _, rfl, Below.refl _ _, fun j y h => by omega⟩
  case round =>
    obtain ⟨i, hil, rfl, hbr, hall⟩ := hrel
    have HA := Lib.hid hall
    clear hall
    by_cases hlt : i < l.length
    · obtain ⟨x, hx⟩ : ∃ x, l[i]? = some x := ⟨_, List.getElem?_eq_getElem hlt⟩
      obtain ⟨b, off, rfl, hbw, d0, d1⟩ := (hsl.below hbr) i x hx
      have hhit := fun h => findG_hit hx h HA.out
      have hst : P x = false → ∀ (j : Nat) (y : ByteArray × Value), j < i + 1 → l[j]? = some y → P y = false := fun h j y hj hy => by
        by_cases hji : j = i
        · subst hji; rw [hx] at hy; cases hy; exact h
        · exact HA.out j y (by omega) hy
      have HHIT := Lib.hid hhit
      have HST := Lib.hid hst
      have cF := Lib.hid (hF.out wr x (List.mem_of_getElem? hx) hbr)
      obtain ⟨xn, xu⟩ := x
      simp only at d0 d1
      have hiI : (i : Int) < (l.length : Int) := by omega
      clear hhit hst hx HA hF
      generalize P _ = r at *
      go_wp2_with fail
      refine cF.out.mono ?_
      rintro e w2 ⟨rfl, hb2⟩
      have hbr2 := Bt hbr hb2
      cases r
      · have HX := Lib.hid (HST.out rfl)
        go_wp2_with fail
        go_roundw
        case rel => exact ⟨i + 1, by omega, by go_num, hbr2, HX.out⟩
        case measure => simp [intOf]; omega
      · have HX := Lib.hid (HHIT.out rfl)
        go_wp2_with fail
        go_ret
        exact ⟨ret_i64 HX.out.symm, hbr2⟩
    · obtain rfl : i = l.length := by omega
      have hn : findG P l = -1 := findG_none fun j y hy => HA.out j y (List.getElem?_eq_some_iff.1 hy).1 hy
      have HN := Lib.hid hn
      clear hn
      go_wp2_with fail
      go_ret
      exact ⟨ret_i64 HN.out.symm, hbr⟩
set_option maxHeartbeats 800000 in
theorem num_ContainsFunc (b off cap : Nat) (l : List Nat) (f : FuncId) (caps : Array Value) (P : Nat → Bool) (w : World) (hsl : NumAt w b off l) (hl : l.length ≤ 16777216) (eg : ∀ args w, (callFunc f args).run Tryz.prog w = .ok (.enter f args) w) (hf : TestNum w f caps P l) :
    Calls Tryz.prog 119 #[.slice (some ⟨b, off, none⟩) l.length cap, .func (.func f) #[] caps] w fun e w' => e = .returned (.bool (l.any P)) ∧ Below w.heap.size w w' := by
  have cI := Lib.hid (num_IndexFunc b off cap l f caps P w hsl hl eg hf)
  have hA : decide (0 ≤ findG P l) = l.any P := by
    unfold findG
    cases h : l.findIdx? P with
    | none =>
      have : l.any P = false := by
        rw [List.findIdx?_eq_none_iff] at h
        rw [List.any_eq_false]
        exact fun x hx => by simp [h x hx]
      rw [this]; rfl
    | some i =>
      obtain ⟨hi, h1, _⟩ := List.findIdx?_eq_some_iff_getElem.1 h
      have : l.any P = true := List.any_eq_true.2 ⟨_, List.getElem_mem hi, h1⟩
      rw [this]; simp
  have HA := Lib.hid hA
  clear hA
  generalize findG P l = i at *
  clear hf hsl eg
  go_enter Tryz.func119, Tryz.ntmps119
  go_wp2_with fail
  refine cI.out.mono ?_
  rintro e w2 ⟨rfl, hb2⟩
  go_wp2_with fail
  go_ret
  exact ⟨ret_bool HA.out, hb2⟩
end Go.Proofs.YtkgifenidmbdkaaGreatDoor

/- subst.own, Own: the variables that there are always. -/
namespace Go.Proofs.YtkgifenidmbdkaaGreatDoor
open Go.RowKit

/-- The classes of package subst, as its text lays them. -/
def ClassLaid (w : World) : Prop := ClsAt w 1 0 clsT
theorem ClassLaid.below {w w' : World} (h : ClassLaid w) (hb : Below w.heap.size w w') : ClassLaid w' := ClsAt.below h hb
def clsV (x : ByteArray × ByteArray × Nat) : Value := .agg #[.string x.1, .string x.2.1, .int .i64 (x.2.2 : Nat)]
set_option maxHeartbeats 800000 in
theorem own_fn (q : Nat) (s : ByteArray) (l : List (ByteArray × ByteArray × Nat)) (w : World) (hq : q < w.heap.size) (hs : w.cell? ⟨q, 0, none⟩ = some (.string s)) :
    TestCls w 111 #[.pointer (some ⟨q, 0, none⟩)] (fun x => decide (x.1 = s)) l := by
  intro W x _ hb
  have hc := (hb.cell (p := ⟨q, 0, none⟩) hq).trans hs
  obtain ⟨xn, xa, xz⟩ := x
  have he := str_eqB xn s
  have hal : Below W.heap.size W (W.alloc (.cells #[.string xn, .string xa, .int .i64 (xz : Nat)] 148)) := (Below.refl _ _).alloc (Nat.le_refl _) _
  have hlt := Nat.lt_of_lt_of_le hq hb.size
  show Calls Tryz.prog _ #[.agg #[.string xn, .string xa, .int .i64 (xz : Nat)], .pointer (some ⟨q, 0, none⟩)] W _
  clear hs hq hb
  simp only
  generalize decide (xn = s) = r at *
  go_enter Tryz.func111, Tryz.ntmps111
  go_wp2_with fail
  go_ret
  exact ⟨ret_bool rfl, hal⟩
theorem own_cases (s : ByteArray) : (findG (fun x => decide (x.1 = s)) clsT = -1 ∧ ownC s = none) ∨ ∃ i x, findG (fun x => decide (x.1 = s)) clsT = ((i : Nat) : Int) ∧ i < 8 ∧ clsT[i]? = some x ∧ ownC s = some x.2 := by
  unfold ownC findG
  cases h : clsT.findIdx? (fun x => decide (x.1 = s)) with
  | none =>
    refine .inl ⟨rfl, ?_⟩
    rw [List.findIdx?_eq_none_iff] at h
    rw [List.find?_eq_none.2 (fun x hx => by simpa using h x hx)]
    rfl
  | some i =>
    obtain ⟨hi, h1, h2⟩ := List.findIdx?_eq_some_iff_getElem.1 h
    have hx : clsT[i]? = some clsT[i] := List.getElem?_eq_getElem hi
    refine .inr ⟨i, clsT[i], rfl, hi, hx, ?_⟩
    have : clsT.find? (fun x => decide (x.1 = s)) = some clsT[i] := by
      rw [List.find?_eq_some_iff_getElem]
      exact ⟨h1, i, hi, rfl, fun j hj => by simpa using h2 j hj⟩
    rw [this]; rfl
theorem info_cls : (Tryz.prog.info? 148).map (·.size) = some 3 := by kernel_rfl
theorem load_cls {w : World} {g : Nat} {x y z : Value} (h : w.heap[g]? = some (.cells #[x, y, z] 148 (0, 0))) : (loadVar 148 ⟨g, 0, none⟩).run Tryz.prog w = .ok (.agg #[x, y, z]) w :=
  run_loadVar_row w g _ _ _ _ _ h Tryz.underlying148 rfl (by rw [info_cls]; rfl)
theorem results_cls {fn : Func} {p u : Tmp} {tmps : Array Value} {w : World} {g : Nat} {x y z : Value} (h : fn.results = #[.cell p 148, .tmp u]) (hp : tmps.getD p undef = .pointer (some ⟨g, 0, none⟩)) (hg : w.heap[g]? = some (.cells #[x, y, z] 148 (0, 0))) :
    (results fn tmps).run Tryz.prog w = .ok (.tuple #[.agg #[x, y, z], tmps.getD u undef]) w := by
  rw [results_cell_tmp h, hp]
  simp [asAddr, Result.andThen, load_cls hg]
theorem below_setRow8 {B : Nat} {a w : World} (h : Below B a w) {g : Nat} (hg : B ≤ g) (cs : Array Value) : Below B a (w.setRow g cs) :=
  ⟨h.os, h.tape, h.output, by simpa using h.size, fun k hk => (setRow_other w g k cs (by omega)).trans (h.block k hk)⟩
theorem all_cls (n a : ByteArray) (z : Int) : (#[Value.string n, .string a, .int .i64 z] : Array Value).all (·.oneCell') = true := by simp [Value.oneCell']
theorem wpList_store_cls {w : World} {ops : Array Oper} {rest : List Oper} {o : Oper} {a : Act} {Q : Exit → Act → World → Prop} (hgd : o.guard = none) (x y : Operand) (ho : o.op = .store 148 x y) (g : Nat) (n am : ByteArray) (z : Int) (hx : a.eval x = .pointer (some ⟨g, 0, none⟩)) (hy : a.eval y = .agg #[.string n, .string am, .int .i64 z])
    (u v q : Value) (hg : w.heap[g]? = some (.cells #[u, v, q] 148 (0, 0))) (h : wpList Tryz.prog ops Q rest (a.put o.dst undef) (w.setRow g #[.string n, .string am, .int .i64 z])) : wpList Tryz.prog ops Q (o :: rest) a w :=
  wpList_store_row hgd _ x y ho g _ hx hy _ _ hg (by rw [info_cls]; rfl) rfl (all_cls n am z) h
def OwnPost (s : ByteArray) (e : Ending) : Prop := (ownC s = none ∧ e = .returned (.tuple #[.agg #[.string ⟨#[]⟩, .string ⟨#[]⟩, .int .i64 0], .bool false])) ∨ ∃ n am sz, ownC s = some (am, sz) ∧ 1 ≤ sz ∧ sz ≤ 2 ∧ e = .returned (.tuple #[.agg #[.string n, .string am, .int .i64 ((sz : Nat) : Int)], .bool true])
theorem cls_size : ∀ x ∈ clsT, 1 ≤ x.2.2 ∧ x.2.2 ≤ 2 := by decide
set_option maxHeartbeats 1600000 in
set_option maxRecDepth 100000 in
theorem sub_own (s : ByteArray) (w : World) (hL : ClassLaid w) : Calls Tryz.prog 72 #[.string s] w fun e w' => OwnPost s e ∧ Below w.heap.size w w' := by
  have hst1 : Below w.heap.size w (w.alloc (.cells #[.string s] 9)) := (Below.refl _ _).alloc (Nat.le_refl _) _
  have hst2 : Below w.heap.size w ((w.alloc (.cells #[.string s] 9)).alloc (.cells #[.string ⟨#[]⟩, .string ⟨#[]⟩, .int .i64 0] 148)) := hst1.alloc (by simp) _
  have hq : ((w.alloc (.cells #[.string s] 9)).alloc (.cells #[.string ⟨#[]⟩, .string ⟨#[]⟩, .int .i64 0] 148)).cell? ⟨w.heap.size, 0, none⟩ = some (.string s) := by simp
  have cI' := cls_IndexFunc 1 0 8 clsT 111 #[.pointer (some ⟨w.heap.size, 0, none⟩)] (fun x => decide (x.1 = s)) _ (hL.below hst2) (by decide) (enters_of Tryz.func111 (by kernel_rfl) rfl) (own_fn w.heap.size s clsT _ (by simp; omega) hq)
  have cI : Calls Tryz.prog 110 #[.slice (some ⟨1, 0, none⟩) 8 8, .func (.func 111) #[] #[.pointer (some ⟨w.heap.size, 0, none⟩)]] _ _ := cI'
  have CI := Lib.hid cI
  have hoc := own_cases s
  clear cI cI' hst1 hq
  go_enter Tryz.func72, Tryz.ntmps72
  go_wp2_with fail
  refine CI.out.mono ?_
  rintro e w2 ⟨rfl, hb2⟩
  have hz0 := heap_alloc_new (w.alloc (.cells #[.string s] 9)) (.cells #[.string ⟨#[]⟩, .string ⟨#[]⟩, .int .i64 0] 148)
  rw [World.size_alloc] at hz0
  have hz := (hb2.block (w.heap.size + 1) (by simp)).trans hz0
  have hb02 := Bt hst2 hb2
  have hL2 := hL.below hb02
  clear hz0 hb2 hst2 CI hL
  rcases hoc with ⟨h1, h2⟩ | ⟨i, x, h1, h2, h3, h4⟩
  · rw [h1]
    have H2 := Lib.hid h2
    clear h1 h2
    go_wp2_with (refine wpList_store_cls (o := ⟨none, _, _, _, _, _⟩) rfl _ _ rfl (w.heap.size + 1) ⟨#[]⟩ ⟨#[]⟩ 0 rfl rfl _ _ _ hz ?_)
    (try simp only [Exit.inBlock, Exit.then])
    refine bodyPost_ret (results_cls rfl rfl (setRow_heap w2 (w.heap.size + 1) _ _ _ _ hz)) rfl ?_
    exact ⟨.inl ⟨H2.out, rfl⟩, below_setRow8 hb02 (by omega) _⟩
  · rw [h1]
    obtain ⟨d0, d1, d2⟩ := hL2.2 i x h3
    have hzz := cls_size x (List.mem_of_getElem? h3)
    have hgl := hL2.1
    obtain ⟨xn, xa, xz⟩ := x
    simp only [Nat.zero_add] at d0 d1 d2
    have hi : (i : Int) < 8 := by omega
    have H4 := Lib.hid h4
    have HZ := Lib.hid hzz
    clear h1 h3 h4 hL2 hzz
    have hz' : (w2.setRow (w.heap.size + 1) #[.string xn, .string xa, .int .i64 (xz : Nat)]).heap[w.heap.size + 1]? = _ := setRow_heap w2 (w.heap.size + 1) _ #[.string xn, .string xa, .int .i64 (xz : Nat)] _ _ hz
    have HZ' := Lib.hid hz'
    clear hz'
    go_wp2_with (refine wpList_store_cls (o := ⟨none, _, _, _, _, _⟩) rfl _ _ rfl (w.heap.size + 1) xn xa (xz : Nat) rfl rfl _ _ _ hz ?_)
    (try simp only [Exit.inBlock, Exit.then])
    refine bodyPost_ret (results_cls rfl rfl HZ'.out) rfl ?_
    exact ⟨.inr ⟨_, _, _, H4.out, HZ.out.1, HZ.out.2, rfl⟩, below_setRow8 hb02 (by omega) _⟩
end Go.Proofs.YtkgifenidmbdkaaGreatDoor
