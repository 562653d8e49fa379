/- Items, compared; two rows of items. -/
import Derived.Test.YtakcfgmibijdnaaGreatDoorQueryWritesM7
import Derived.Laws.StructEq
import Derived.Deep.QuietTactic
import Derived.BigQuiet
import Derived.Test.YtakcfgmibijdnaaGreatDoorQueryWritesM3
import Derived.Test.YtakcfgmibijdnaaGreatDoorQueryWritesM6
import Derived.Test.YtakcfgmibijdnaaGreatDoorQueryWritesM1

namespace Go.Proofs.YtakcfgmibijdnaaGreatDoor
open Go.RowKit

def itemV (x : It) : Value := .agg #[.string x.name, .string x.value, .bool x.has]
theorem toList_eqB (a b : ByteArray) : (a.toList = b.toList) = (a = b) := by
  have h := str_eqB a b
  rw [Bool.eq_iff_iff] at h
  simpa using h
theorem neq_item (n v : ByteArray) (b : Bool) (n' v' : ByteArray) (b' : Bool) (w : World) : (binOp .neq 47 (.agg #[.string n, .string v, .bool b]) (.agg #[.string n', .string v', .bool b'])).run Tryz.prog w = .ok (.bool (!decide ((⟨n, v, b⟩ : It) = ⟨n', v', b'⟩))) w := by
  have u9 := Tryz.underlying9
  have u4 := Tryz.underlying4
  have z9 := Tryz.sizeOf9
  have z4 := Tryz.sizeOf4
  have a9 := Tryz.isAgg9
  have a4 := Tryz.isAgg4
  have hS : Tryz.prog.underlying 47 = some (.struct (Tryz.prog.fieldsOf 47)) := by kernel_rfl
  have hp : Tryz.prog.stoodInHeld 47 = false := by kernel_rfl
  rw [run_neq_struct, show (10000 : Nat) = 9999 + 1 from rfl, run_equalIn_agg w 9999 47 _ _ hS hp]
  simp only [Program.fieldsOf, Tryz.underlying47]
  go_simp
  simp only [toList_eqB]
  by_cases h1 : n = n'
  · by_cases h2 : v = v'
    · by_cases h3 : b = b'
      · simp [h1, h2, h3]
      · simp [h1, h2, h3]
    · simp [h1, h2]
  · simp [h1]

set_option maxHeartbeats 1600000 in
set_option maxRecDepth 100000 in
theorem ref16_Same (a1 : Option Addr) (c1 : Nat) (a2 : Option Addr) (c2 : Nat) (l1 l2 : List It) (w : World) (h1 : ItemsOwn w a1 l1) (h2 : ItemsOwn w a2 l2) (hn1 : l1.length ≤ 16777216) (hn2 : l2.length ≤ 16777216) :
    Calls Tryz.prog 34 #[.slice a1 l1.length c1, .slice a2 l2.length c2] w fun e w' => e = .returned (.bool (decide (l1 = l2))) ∧ ∃ m, w.drewN m = w' := by
  by_cases hn : l1.length = l2.length
  · go_enter Tryz.func34, Tryz.ntmps34
    have hnI : ((l1.length : Int) != (l2.length : Int)) = false := by simp; omega
    have h12 : l1.length ≤ l2.length := by omega
    have HN := Lib.hid hn
    clear hn
    go_wp2_with fail
    go_loopw [5] (fun i wr => ∃ k m : Nat, k ≤ l1.length ∧ i = .int .i64 k ∧ w.drewN m = wr ∧ l1.take k = l2.take k) (fun i _ => l1.length - (intOf i).toNat)
    case atStart => exact ⟨0, 0, Nat.zero_le _, rfl, rfl, rfl⟩
    case round =>
      obtain ⟨k, m, hk, rfl, rfl, hall⟩ := hrel
      have HA := Lib.hid hall
      clear hall
      by_cases hlt : k < l1.length
      · obtain ⟨x, hx⟩ : ∃ x, l1[k]? = some x := ⟨_, List.getElem?_eq_getElem hlt⟩
        obtain ⟨y, hy⟩ : ∃ y, l2[k]? = some y := ⟨_, List.getElem?_eq_getElem (by omega)⟩
        obtain ⟨b1, rfl, hb1, d0, d1, d2⟩ := h1 k x hx
        obtain ⟨b2, rfl, hb2, e0, e1, e2⟩ := h2 k y hy
        have i1 : (k : Int) < (l1.length : Int) := by omega
        have i2 : (k : Int) < (l2.length : Int) := by omega
        have hcm := fun W => neq_item x.name x.value x.has y.name y.value y.has W
        have hstep : x = y → l1.take (k + 1) = l2.take (k + 1) := by
          intro e
          rw [List.take_add_one, List.take_add_one, HA.out, hx, hy, e]
        have hne : x ≠ y → l1 ≠ l2 := by
          intro e e'
          rw [e', hy] at hx
          exact e (Option.some.inj hx).symm
        have HS := Lib.hid hstep
        have HNE := Lib.hid hne
        clear hstep hne hx hy h1 h2
        obtain ⟨xn, xv, xh⟩ := x
        obtain ⟨yn, yv, yh⟩ := y
        by_cases hxy : (⟨xn, xv, xh⟩ : It) = ⟨yn, yv, yh⟩
        · simp only [decide_eq_true hxy, Bool.not_true] at hcm
          have HX := Lib.hid (HS.out hxy)
          clear hxy HS HNE
          go_wp2_with fail
          go_quiet (fail)
          go_wp2_with fail
          go_roundw
          case rel => exact ⟨k + 1, _, by omega, by go_num, rfl, HX.out⟩
          case measure => simp [intOf]; omega
        · simp only [decide_eq_false hxy, Bool.not_false] at hcm
          have HX := Lib.hid (HNE.out hxy)
          clear hxy HS HNE
          go_wp2_with fail
          go_quiet (fail)
          go_wp2_with fail
          go_ret
          exact ⟨ret_bool (decide_eq_false HX.out).symm, _, (World.drewN_drewN _ _ _).symm⟩
      · obtain rfl : k = l1.length := by omega
        have heq : l1 = l2 := by
          have := HA.out
          rw [List.take_length, HN.out, List.take_length] at this
          exact this
        have HE := Lib.hid heq
        clear heq h1 h2
        go_wp2_with fail
        go_ret
        exact ⟨ret_bool (decide_eq_true HE.out).symm, _, rfl⟩
  · have e1 : ((l1.length : Int) != (l2.length : Int)) = true := by simp; omega
    have hne : l1 ≠ l2 := fun h => hn (by rw [h])
    have HNE := Lib.hid hne
    clear hne hn
    go_enter Tryz.func34, Tryz.ntmps34
    go_wp2_with fail
    go_ret
    exact ⟨ret_bool (decide_eq_false HNE.out).symm, 0, rfl⟩
end Go.Proofs.YtakcfgmibijdnaaGreatDoor

/- A string's bytes, as a slice that reads as the string. -/
namespace Go.Proofs.YtakcfgmibijdnaaGreatDoor
open Go.RowKit

section
variable {P : Program}
theorem wpList_bytes_sl {ops : Array Oper} {rest : List Oper} {o : Oper} {a : Act} {w : World} {Q : Exit → Act → World → Prop} (hgd : o.guard = none) (src dst e : TypeId) (x : Operand)
    (ho : o.op = .convert src dst x) (s : ByteArray) (hx : a.eval x = .string s) (hs : P.underlying src = some .string) (hd : P.underlying dst = some (.slice e)) (he : P.underlying e = some (.int .u8)) (hm : s.size ≤ 140737488351232)
    (h : ∀ (v : Value) (w' : World), BytesSl w' v s → Below w.heap.size w w' → wpList P ops Q rest (a.put o.dst v) w') : wpList P ops Q (o :: rest) a w := by
  refine wpList_plain hgd fun K hK => ?_
  unfold Oper.wp execOp
  have hr := run_bytes_of_string (P := P) w src dst e s hs hd he
  simp only [ho, hx, Sem.run_bind, hr, Result.andThen_ok, Sem.run_pure]
  refine hK _ _ (h _ _ (.inr ⟨w.heap.size, 0, grownCap w s.size 0 e, rfl, grownCap_ge w s.size 0 e, grownCap_le_maxLen w s.size 0 e (by unfold maxLen; omega), by simp, BytesAt.isIn ?_⟩) ((((Below.refl _ _).drew).alloc (Nat.le_refl _) _)))
  refine ⟨e, List.replicate (grownCap w s.size 0 e - s.size) (Value.int .u8 0), _, s.data.toList.length + (List.replicate (grownCap w s.size 0 e - s.size) (Value.int .u8 0)).length + 1, .inr (Nat.le_refl _), ?_⟩
  refine (heap_alloc_new w.drew _).trans ?_
  have hb : bytesRow s (grownCap w s.size 0 e) = (List.map byteV s.data.toList ++ List.replicate (grownCap w s.size 0 e - s.size) (Value.int .u8 0)).toArray := by
    unfold bytesRow
    apply Array.ext'
    simp [byteV]
  have hsz : (bytesRow s (grownCap w s.size 0 e)).size = s.data.toList.length + (List.replicate (grownCap w s.size 0 e - s.size) (Value.int .u8 0)).length := by
    rw [hb]; simp
  rw [hsz, hb]
end
end Go.Proofs.YtakcfgmibijdnaaGreatDoor

/- query.Text; the reference's. -/
namespace Go.Proofs.YtakcfgmibijdnaaGreatDoor
open Go.RowKit

theorem partsW_step {l : List It} {k : Nat} {x : It} (h : l[k]? = some x) : partsW (l.take (k + 1)) = if partW x = [] then partsW (l.take k) else partsW (l.take k) ++ [partW x] := by
  rw [List.take_add_one, h]
  exact partsW_snoc _ _
theorem ofL_eq {a : List UInt8} {s : ByteArray} (h : a = s.data.toList) : ofL a = s := by rw [h, ofL_list]
end Go.Proofs.YtakcfgmibijdnaaGreatDoor

/- The reference's Text of chapter 16. -/
namespace Go.Proofs.YtakcfgmibijdnaaGreatDoor
open Go.RowKit

theorem joinA_put (c : UInt8) (acc : List (List UInt8)) (p : List UInt8) : joinA c (acc ++ [p]) = if acc = [] then p else joinA c acc ++ c :: p := by
  by_cases h : acc = []
  · rw [if_pos h, h]; rfl
  · rw [if_neg h, joinA_snoc c p acc h]
end Go.Proofs.YtakcfgmibijdnaaGreatDoor

/- slices.IndexFunc and ContainsFunc of items. -/
namespace Go.Proofs.YtakcfgmibijdnaaGreatDoor
open Go.RowKit

/-- The first place at which a test says yes; -1: none. -/
def findI (P : It → Bool) (l : List It) : Int := match l.findIdx? P with | some i => (i : Int) | none => -1
theorem findI_hit {P : It → Bool} {l : List It} {i : Nat} {x : It} (h : l[i]? = some x) (hx : P x = true) (hall : ∀ (j : Nat) (y : It), j < i → l[j]? = some y → P y = false) : findI P l = i := by
  unfold findI
  have : l.findIdx? P = some i := by
    rw [List.findIdx?_eq_some_iff_getElem]
    obtain ⟨hi, rfl⟩ := List.getElem?_eq_some_iff.1 h
    exact ⟨hi, hx, fun j hj => by rw [hall j _ hj (List.getElem?_eq_getElem (by omega))]; decide⟩
  rw [this]
theorem findI_none {P : It → Bool} {l : List It} (hall : ∀ (j : Nat) (y : It), l[j]? = some y → P y = false) : findI P l = -1 := by
  unfold findI
  have : l.findIdx? P = none := by
    rw [List.findIdx?_eq_none_iff]
    intro x hx
    obtain ⟨i, hi, rfl⟩ := List.mem_iff_getElem.1 hx
    exact hall i _ (List.getElem?_eq_getElem hi)
  rw [this]
theorem ItemsOwn.take {w : World} {a : Option Addr} {l : List It} (h : ItemsOwn w a l) (n : Nat) : ItemsOwn w a (l.take n) := by
  intro i p hp
  refine h i p ?_
  rw [List.getElem?_take] at hp
  split at hp
  · exact hp
  · cases hp
/-- A test that a closure makes of items, in whatever world lies behind w. -/
def TestI (w : World) (f : FuncId) (caps : Array Value) (P : It → Bool) : Prop := ∀ (W : World) (x : It), Below w.heap.size w W → Calls Tryz.prog f (#[.agg #[.string x.name, .string x.value, .bool x.has]] ++ caps) W fun e w' => e = .returned (.bool (P x)) ∧ Below W.heap.size W w'
set_option maxHeartbeats 1600000 in
set_option maxRecDepth 100000 in
theorem items_IndexFunc (pa : Option Addr) (c : Nat) (l : List It) (f : FuncId) (q : Nat) (P : It → Bool) (w : World) (hsl : ItemsOwn w pa l) (hl : l.length ≤ 16777216) (eg : ∀ args w, (callFunc f args).run Tryz.prog w = .ok (.enter f args) w) (hf : TestI w f #[.pointer (some ⟨q, 0, none⟩)] P) :
    Calls Tryz.prog 56 #[.slice pa l.length c, .func (.func f) #[] #[.pointer (some ⟨q, 0, none⟩)]] w fun e w' => e = .returned (.int .i64 (findI P l)) ∧ Below w.heap.size w w' := by
  have hF := Lib.hid hf
  clear hf
  go_enter Tryz.func56, Tryz.ntmps56
  go_wp2_with fail
  go_loopw [8] (fun x wr => ∃ i : Nat, i ≤ l.length ∧ x = .int .i64 i ∧ Below w.heap.size w wr ∧ ∀ (j : Nat) (y : It), j < i → l[j]? = some y → P y = false) (fun x _ => l.length - (intOf x).toNat)
  case atStart => exact ⟨0, Nat.zero_le _, rfl, Below.refl _ _, fun j y h => by omega⟩
  case round =>
    obtain ⟨i, hil, rfl, hbr, hall⟩ := hrel
    have HA := Lib.hid hall
    clear hall
    by_cases hlt : i < l.length
    · obtain ⟨x, hx⟩ : ∃ x, l[i]? = some x := ⟨_, List.getElem?_eq_getElem hlt⟩
      obtain ⟨b, rfl, hb, d0, d1, d2⟩ := (hsl.below hbr) i x hx
      have hhit := fun h => findI_hit hx h HA.out
      have hst : P x = false → ∀ (j : Nat) (y : It), j < i + 1 → l[j]? = some y → P y = false := fun h j y hj hy => by
        by_cases hji : j = i
        · subst hji; rw [hx] at hy; cases hy; exact h
        · exact HA.out j y (by omega) hy
      have HHIT := Lib.hid hhit
      have HST := Lib.hid hst
      have cF := Lib.hid (hF.out wr x hbr)
      obtain ⟨xn, xv, xh⟩ := x
      have hiI : (i : Int) < (l.length : Int) := by omega
      clear hhit hst hx HA hF
      generalize P ⟨xn, xv, xh⟩ = r at *
      go_wp2_with fail
      refine cF.out.mono ?_
      rintro e w2 ⟨rfl, hb2⟩
      have hbr2 := Bt hbr hb2
      cases r
      · have HX := Lib.hid (HST.out rfl)
        go_wp2_with fail
        go_roundw
        case rel => exact ⟨i + 1, by omega, by go_num, hbr2, HX.out⟩
        case measure => simp [intOf]; omega
      · have HX := Lib.hid (HHIT.out rfl)
        go_wp2_with fail
        go_ret
        exact ⟨ret_i64 HX.out.symm, hbr2⟩
    · obtain rfl : i = l.length := by omega
      have hn : findI P l = -1 := findI_none fun j y hy => HA.out j y (List.getElem?_eq_some_iff.1 hy).1 hy
      have HN := Lib.hid hn
      clear hn
      go_wp2_with fail
      go_ret
      exact ⟨ret_i64 HN.out.symm, hbr⟩
theorem findI_any (P : It → Bool) (l : List It) : decide (0 ≤ findI P l) = l.any P := by
  unfold findI
  cases h : l.findIdx? P with
  | none =>
    rw [List.findIdx?_eq_none_iff] at h
    have : l.any P = false := by rw [List.any_eq_false]; intro x hx; rw [h x hx]; decide
    rw [this]; rfl
  | some i =>
    rw [List.findIdx?_eq_some_iff_getElem] at h
    obtain ⟨hi, hx, _⟩ := h
    have : l.any P = true := by rw [List.any_eq_true]; exact ⟨l[i], List.getElem_mem _, hx⟩
    rw [this]
    simp
set_option maxHeartbeats 800000 in
theorem items_ContainsFunc (pa : Option Addr) (c : Nat) (l : List It) (f : FuncId) (q : Nat) (P : It → Bool) (w : World) (hsl : ItemsOwn w pa l) (hl : l.length ≤ 16777216) (eg : ∀ args w, (callFunc f args).run Tryz.prog w = .ok (.enter f args) w) (hf : TestI w f #[.pointer (some ⟨q, 0, none⟩)] P) :
    Calls Tryz.prog 65 #[.slice pa l.length c, .func (.func f) #[] #[.pointer (some ⟨q, 0, none⟩)]] w fun e w' => e = .returned (.bool (l.any P)) ∧ Below w.heap.size w w' := by
  have cI := Lib.hid (items_IndexFunc pa c l f q P w hsl hl eg hf)
  have HA := Lib.hid (findI_any P l)
  generalize findI P l = i at *
  clear hf hsl eg
  go_enter Tryz.func65, Tryz.ntmps65
  go_wp2_with fail
  refine cI.out.mono ?_
  rintro e w2 ⟨rfl, hb2⟩
  go_wp2_with fail
  go_ret
  exact ⟨ret_bool HA.out, hb2⟩
end Go.Proofs.YtakcfgmibijdnaaGreatDoor

/- slices.IndexFunc and ContainsFunc of items that lie anywhere, with a closure of any captures. -/
namespace Go.Proofs.YtakcfgmibijdnaaGreatDoor
open Go.RowKit

theorem ItemsSl.take {w : World} {a : Option Addr} {l : List It} (h : ItemsSl w a l) (n : Nat) : ItemsSl w a (l.take n) := by
  intro i p hp
  refine h i p ?_
  rw [List.getElem?_take] at hp
  split at hp
  · exact hp
  · cases hp
/-- A test that a closure makes of a list's items, in whatever world lies behind w. -/
def TestL (w : World) (f : FuncId) (caps : Array Value) (P : It → Bool) (l : List It) : Prop := ∀ (W : World) (x : It), x ∈ l → Below w.heap.size w W → Calls Tryz.prog f (#[.agg #[.string x.name, .string x.value, .bool x.has]] ++ caps) W fun e w' => e = .returned (.bool (P x)) ∧ Below W.heap.size W w'
set_option maxHeartbeats 1600000 in
set_option maxRecDepth 100000 in
theorem items_IndexFunc2 (pa : Option Addr) (c : Nat) (l : List It) (f : FuncId) (caps : Array Value) (P : It → Bool) (w : World) (hsl : ItemsSl w pa l) (hl : l.length ≤ 16777216) (eg : ∀ args w, (callFunc f args).run Tryz.prog w = .ok (.enter f args) w) (hf : TestL w f caps P l) :
    Calls Tryz.prog 56 #[.slice pa l.length c, .func (.func f) #[] caps] w fun e w' => e = .returned (.int .i64 (findI P l)) ∧ Below w.heap.size w w' := by
  have hF := Lib.hid hf
  clear hf
  go_enter Tryz.func56, Tryz.ntmps56
  go_wp2_with fail
  go_loopw [8] (fun x wr => ∃ i : Nat, i ≤ l.length ∧ x = .int .i64 i ∧ Below w.heap.size w wr ∧ ∀ (j : Nat) (y : It), j < i → l[j]? = some y → P y = false) (fun x _ => l.length - (intOf x).toNat)
  case atStart => exact ⟨0, Nat.zero_le _, rfl, Below.refl _ _, fun j y h => by omega⟩
  case round =>
    obtain ⟨i, hil, rfl, hbr, hall⟩ := hrel
    have HA := Lib.hid hall
    clear hall
    by_cases hlt : i < l.length
    · obtain ⟨x, hx⟩ : ∃ x, l[i]? = some x := ⟨_, List.getElem?_eq_getElem hlt⟩
      obtain ⟨b, off, rfl, hb, d0, d1, d2⟩ := (hsl.below hbr) i x hx
      have hhit := fun h => findI_hit hx h HA.out
      have hst : P x = false → ∀ (j : Nat) (y : It), j < i + 1 → l[j]? = some y → P y = false := fun h j y hj hy => by
        by_cases hji : j = i
        · subst hji; rw [hx] at hy; cases hy; exact h
        · exact HA.out j y (by omega) hy
      have HHIT := Lib.hid hhit
      have HST := Lib.hid hst
      have cF := Lib.hid (hF.out wr x (List.mem_of_getElem? hx) hbr)
      obtain ⟨xn, xv, xh⟩ := x
      have hiI : (i : Int) < (l.length : Int) := by omega
      clear hhit hst hx HA hF
      generalize P ⟨xn, xv, xh⟩ = r at *
      go_wp2_with fail
      refine cF.out.mono ?_
      rintro e w2 ⟨rfl, hb2⟩
      have hbr2 := Bt hbr hb2
      cases r
      · have HX := Lib.hid (HST.out rfl)
        go_wp2_with fail
        go_roundw
        case rel => exact ⟨i + 1, by omega, by go_num, hbr2, HX.out⟩
        case measure => simp [intOf]; omega
      · have HX := Lib.hid (HHIT.out rfl)
        go_wp2_with fail
        go_ret
        exact ⟨ret_i64 HX.out.symm, hbr2⟩
    · obtain rfl : i = l.length := by omega
      have hn : findI P l = -1 := findI_none fun j y hy => HA.out j y (List.getElem?_eq_some_iff.1 hy).1 hy
      have HN := Lib.hid hn
      clear hn
      go_wp2_with fail
      go_ret
      exact ⟨ret_i64 HN.out.symm, hbr⟩
set_option maxHeartbeats 800000 in
theorem items_ContainsFunc2 (pa : Option Addr) (c : Nat) (l : List It) (f : FuncId) (caps : Array Value) (P : It → Bool) (w : World) (hsl : ItemsSl w pa l) (hl : l.length ≤ 16777216) (eg : ∀ args w, (callFunc f args).run Tryz.prog w = .ok (.enter f args) w) (hf : TestL w f caps P l) :
    Calls Tryz.prog 65 #[.slice pa l.length c, .func (.func f) #[] caps] w fun e w' => e = .returned (.bool (l.any P)) ∧ Below w.heap.size w w' := by
  have cI := Lib.hid (items_IndexFunc2 pa c l f caps P w hsl hl eg hf)
  have HA := Lib.hid (findI_any P l)
  generalize findI P l = i at *
  clear hf hsl eg
  go_enter Tryz.func65, Tryz.ntmps65
  go_wp2_with fail
  refine cI.out.mono ?_
  rintro e w2 ⟨rfl, hb2⟩
  go_wp2_with fail
  go_ret
  exact ⟨ret_bool HA.out, hb2⟩
end Go.Proofs.YtakcfgmibijdnaaGreatDoor

/- Plain: the language of a pattern's parts, and the states that are reached, step by step. -/
namespace Go.Proofs.YtakcfgmibijdnaaGreatDoor

/-- A part of a pattern. -/
structure GPart where
  char : Nat
  wild : Bool
  many : Bool
def smallC (c : Nat) : Nat := if 65 ≤ c ∧ c ≤ 90 then c + 32 else c
def standsB (p : GPart) (c : Nat) (f : Bool) : Bool := p.wild || (decide (p.char = c) || (f && decide (smallC p.char = smallC c)))
def oneOk (f : Bool) (p : GPart) (u : List Nat) : Prop := if p.many = true then ∀ c ∈ u, standsB p c f = true else ∃ c, u = [c] ∧ standsB p c f = true
/-- The language of parts. -/
def Lang (f : Bool) : List GPart → List Nat → Prop
  | [], u => u = []
  | p :: ps, u => ∃ a b, u = a ++ b ∧ oneOk f p a ∧ Lang f ps b

theorem oneOk_many {f : Bool} {p : GPart} {u : List Nat} (h : p.many = true) : oneOk f p u ↔ ∀ c ∈ u, standsB p c f = true := by unfold oneOk; rw [if_pos h]
theorem oneOk_one {f : Bool} {p : GPart} {u : List Nat} (h : p.many = false) : oneOk f p u ↔ ∃ c, u = [c] ∧ standsB p c f = true := by unfold oneOk; rw [if_neg (by simp [h])]

theorem lang_app (f : Bool) (ps qs : List GPart) (u : List Nat) : Lang f (ps ++ qs) u ↔ ∃ a b, u = a ++ b ∧ Lang f ps a ∧ Lang f qs b := by
  induction ps generalizing u with
  | nil =>
    constructor
    · intro h; exact ⟨[], u, rfl, rfl, h⟩
    · rintro ⟨a, b, rfl, ha, hb⟩
      obtain rfl : a = [] := ha
      exact hb
  | cons p ps ih =>
    constructor
    · rintro ⟨a, b, rfl, h1, h2⟩
      obtain ⟨c, d, rfl, h3, h4⟩ := (ih b).1 h2
      exact ⟨a ++ c, d, by rw [List.append_assoc], ⟨a, c, rfl, h1, h3⟩, h4⟩
    · rintro ⟨a, b, rfl, ⟨c, d, rfl, h1, h3⟩, h4⟩
      exact ⟨c, d ++ b, by rw [List.append_assoc], h1, (ih _).2 ⟨d, b, rfl, h3, h4⟩⟩
theorem lang_one (f : Bool) (p : GPart) (u : List Nat) : Lang f [p] u ↔ oneOk f p u := by
  constructor
  · rintro ⟨a, b, rfl, h, hb⟩
    obtain rfl : b = [] := hb
    simpa using h
  · intro h; exact ⟨u, [], by simp, h, rfl⟩

/-- State i is reached by characters: the parts ahead of it stand for their beginning, and part i, if it may stand for many, for the rest. -/
def Reached (f : Bool) (ps : List GPart) (u : List Nat) (i : Nat) : Prop :=
  ∃ a b, u = a ++ b ∧ Lang f (ps.take i) a ∧ (b = [] ∨ ∃ p, ps[i]? = some p ∧ p.many = true ∧ ∀ c ∈ b, standsB p c f = true)

theorem take_one {ps : List GPart} {i : Nat} {p : GPart} (h : ps[i]? = some p) : ps.take (i + 1) = ps.take i ++ [p] := by
  obtain ⟨hi, rfl⟩ := List.getElem?_eq_some_iff.1 h
  exact List.take_succ_eq_append_getElem hi

theorem reached_all (f : Bool) (ps : List GPart) (u : List Nat) : Reached f ps u ps.length ↔ Lang f ps u := by
  constructor
  · rintro ⟨a, b, rfl, h, hb⟩
    rw [List.take_length] at h
    rcases hb with rfl | ⟨p, hp, _⟩
    · simpa using h
    · simp at hp
  · intro h; exact ⟨u, [], by simp, by rw [List.take_length]; exact h, .inl rfl⟩

theorem reached_nil_zero (f : Bool) (ps : List GPart) : Reached f ps [] 0 := ⟨[], [], rfl, by simp [Lang], .inl rfl⟩
theorem reached_nil_succ {f : Bool} {ps : List GPart} {i : Nat} {p : GPart} (h : ps[i]? = some p) : Reached f ps [] (i + 1) ↔ (Reached f ps [] i ∧ p.many = true) := by
  constructor
  · rintro ⟨a, b, hab, h1, _⟩
    obtain ⟨rfl, rfl⟩ : a = [] ∧ b = [] := by simpa [eq_comm] using hab
    rw [take_one h, lang_app] at h1
    obtain ⟨c, d, hcd, h2, h3⟩ := h1
    obtain ⟨rfl, rfl⟩ : c = [] ∧ d = [] := by simpa [eq_comm] using hcd
    rw [lang_one] at h3
    cases hm : p.many with
    | true => exact ⟨⟨[], [], rfl, h2, .inl rfl⟩, rfl⟩
    | false =>
      obtain ⟨c, hc, _⟩ := (oneOk_one hm).1 h3
      cases hc
  · rintro ⟨⟨a, b, hab, h1, _⟩, hm⟩
    obtain ⟨rfl, rfl⟩ : a = [] ∧ b = [] := by simpa [eq_comm] using hab
    refine ⟨[], [], rfl, ?_, .inl rfl⟩
    rw [take_one h, lang_app]
    exact ⟨[], [], rfl, h1, (lang_one _ _ _).2 ((oneOk_many hm).2 fun c hc => by cases hc)⟩

/-- What a step reaches by itself. -/
def Stepped (f : Bool) (ps : List GPart) (u : List Nat) (c : Nat) (i : Nat) : Prop :=
  (∃ p, ps[i]? = some p ∧ Reached f ps u i ∧ standsB p c f = true ∧ p.many = true) ∨ (∃ j p, i = j + 1 ∧ ps[j]? = some p ∧ Reached f ps u j ∧ standsB p c f = true ∧ p.many = false)

theorem reached_snoc_of {f : Bool} {ps : List GPart} {u : List Nat} {c i : Nat} (h : Stepped f ps u c i) : Reached f ps (u ++ [c]) i := by
  rcases h with ⟨p, hp, ⟨a, b, rfl, h1, hb⟩, hs, hm⟩ | ⟨j, p, rfl, hp, ⟨a, b, rfl, h1, hb⟩, hs, hm⟩
  · refine ⟨a, b ++ [c], by rw [List.append_assoc], h1, .inr ⟨p, hp, hm, fun x hx => ?_⟩⟩
    rcases List.mem_append.1 hx with hx | hx
    · rcases hb with rfl | ⟨q, hq, _, h2⟩
      · cases hx
      · rw [hp] at hq; cases hq
        exact h2 x hx
    · simp at hx; subst hx; exact hs
  · obtain rfl : b = [] := by
      rcases hb with h | ⟨q, hq, h2, _⟩
      · exact h
      · rw [hp] at hq; cases hq
        rw [hm] at h2; cases h2
    refine ⟨a ++ [c], [], by simp, ?_, .inl rfl⟩
    rw [take_one hp, lang_app]
    exact ⟨a, [c], rfl, h1, (lang_one _ _ _).2 ((oneOk_one hm).2 ⟨c, rfl, hs⟩)⟩
theorem reached_skip {f : Bool} {ps : List GPart} {u : List Nat} {i : Nat} {p : GPart} (hp : ps[i]? = some p) (hm : p.many = true) (h : Reached f ps u i) : Reached f ps u (i + 1) := by
  obtain ⟨a, b, rfl, h1, hb⟩ := h
  refine ⟨a ++ b, [], by simp, ?_, .inl rfl⟩
  rw [take_one hp, lang_app]
  refine ⟨a, b, rfl, h1, (lang_one _ _ _).2 ((oneOk_many hm).2 fun x hx => ?_)⟩
  rcases hb with rfl | ⟨q, hq, _, h2⟩
  · cases hx
  · rw [hp] at hq; cases hq
    exact h2 x hx
theorem snoc_split {u a b : List Nat} {c : Nat} (h : u ++ [c] = a ++ b) (hb : b ≠ []) : ∃ b0, b = b0 ++ [c] ∧ u = a ++ b0 := by
  obtain ⟨b0, x, rfl⟩ : ∃ b0 x, b = b0 ++ [x] := ⟨b.dropLast, b.getLast hb, (List.dropLast_concat_getLast hb).symm⟩
  rw [← List.append_assoc] at h
  obtain ⟨h1, h2⟩ := List.append_inj' h rfl
  cases h2
  exact ⟨b0, rfl, h1⟩
theorem reached_snoc {f : Bool} {ps : List GPart} {u : List Nat} {c i : Nat} (hi : i ≤ ps.length) (h : Reached f ps (u ++ [c]) i) :
    Stepped f ps u c i ∨ ∃ j p, i = j + 1 ∧ ps[j]? = some p ∧ p.many = true ∧ Reached f ps (u ++ [c]) j := by
  obtain ⟨a, b, hab, h1, hb⟩ := h
  by_cases hbn : b = []
  · subst hbn
    rw [List.append_nil] at hab
    subst hab
    cases i with
    | zero =>
      rw [List.take_zero] at h1
      exact absurd h1 (by simp [Lang])
    | succ j =>
      have hp : ps[j]? = some (ps[j]'(by omega)) := List.getElem?_eq_getElem (by omega)
      rw [take_one hp, lang_app] at h1
      obtain ⟨a', b', hab, h2, h3⟩ := h1
      rw [lang_one] at h3
      cases hm : (ps[j]'(by omega)).many with
      | true => exact .inr ⟨j, _, rfl, hp, hm, a', b', hab, h2, .inr ⟨_, hp, hm, (oneOk_many hm).1 h3⟩⟩
      | false =>
        obtain ⟨x, rfl, hs⟩ := (oneOk_one hm).1 h3
        obtain ⟨rfl, h4⟩ := List.append_inj' hab rfl
        cases h4
        exact .inl (.inr ⟨j, _, rfl, hp, ⟨u, [], by simp, h2, .inl rfl⟩, hs, hm⟩)
  · rcases hb with hb | ⟨p, hp, hm, hs⟩
    · exact absurd hb hbn
    · obtain ⟨b0, rfl, rfl⟩ := snoc_split hab hbn
      exact .inl (.inl ⟨p, hp, ⟨a, b0, rfl, h1, .inr ⟨p, hp, hm, fun x hx => hs x (by simp [hx])⟩⟩, hs c (by simp), hm⟩)
theorem reached_snoc_zero (f : Bool) (ps : List GPart) (u : List Nat) (c : Nat) : Reached f ps (u ++ [c]) 0 ↔ Stepped f ps u c 0 := by
  constructor
  · intro h
    rcases reached_snoc (Nat.zero_le _) h with h | ⟨j, p, e, _⟩
    · exact h
    · cases e
  · exact reached_snoc_of
theorem reached_snoc_succ {f : Bool} {ps : List GPart} {u : List Nat} {c i : Nat} {p : GPart} (hp : ps[i]? = some p) : Reached f ps (u ++ [c]) (i + 1) ↔ (Stepped f ps u c (i + 1) ∨ (Reached f ps (u ++ [c]) i ∧ p.many = true)) := by
  have hi : i < ps.length := (List.getElem?_eq_some_iff.1 hp).1
  constructor
  · intro h
    rcases reached_snoc (by omega) h with h | ⟨j, q, e, hq, hm, h⟩
    · exact .inl h
    · obtain rfl : i = j := by omega
      rw [hp] at hq; cases hq
      exact .inr ⟨h, hm⟩
  · rintro (h | ⟨h, hm⟩)
    · exact reached_snoc_of h
    · exact reached_skip hp hm h
end Go.Proofs.YtakcfgmibijdnaaGreatDoor
