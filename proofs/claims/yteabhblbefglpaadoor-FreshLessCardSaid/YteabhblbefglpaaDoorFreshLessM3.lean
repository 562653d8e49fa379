/- media.inToken, within, Token. -/
import Derived.Test.YteabhblbefglpaaDoorFreshLessM2
import Derived.Laws.RangeString
import Derived.Laws.RangeAny
import Derived.Laws.Tables
import Derived.Laws.ResultCell
import Derived.Test.YteabhblbefglpaaDoorFreshLessM1
import Derived.Test.YteabhblbefglpaaDoorShelf
import Derived.Shelf.Strings.SplitCore
import Derived.Laws.BytesArg

namespace Go.Proofs.YteabhblbefglpaaDoor
open Go.RowKit

set_option maxHeartbeats 800000 in
theorem media_inToken (c : UInt8) (w : World) : Calls Tryd.prog 146 #[.int .u8 (c.toNat : Int)] w fun e w' => e = .returned (.bool (inTok c)) ∧ w = w' := by
  have hc' := fun W => Tryd.strings_IndexByte tokS ((c.toNat : Int)) W
  have hcc : ((((c).toNat : Int)).toNat.toUInt8) = c := by simp
  rw [hcc] at hc'
  have HC := Lib.hid hc'
  have hix := index_has tokS c
  have hin : inTok c = (hasB tokS c || (decide (65 ≤ c.toNat) && decide (c.toNat ≤ 90))) := rfl
  generalize Lib.indexByte tokS.data.toList c = ix at *
  generalize hasB tokS c = hb at *
  have HIN := Lib.hid hin
  clear hc' hcc hin
  rcases hix with ⟨rfl, h2⟩ | ⟨rfl, h2⟩
  · go_enter Tryd.func146, Tryd.ntmps146
    go_wp2_with fail
    refine (HC.out _).mono ?_
    rintro e w2 ⟨rfl, rfl⟩
    go_wp2_with fail
    go_ret
    exact ⟨ret_bool (by rw [HIN.out]; rfl), rfl⟩
  · have h3 : decide ((0 : Int) ≤ ix) = false := decide_eq_false (by omega)
    by_cases h65 : 65 ≤ c.toNat
    · have d65 : (65 : Int) ≤ (c.toNat : Int) := by omega
      have hfin : inTok c = decide ((c.toNat : Int) ≤ 90) := by
        rw [HIN.out, decide_eq_true h65]
        simp only [Bool.false_or, Bool.true_and]
        apply decide_eq_decide.2
        omega
      have HF := Lib.hid hfin
      clear hfin h65
      go_enter Tryd.func146, Tryd.ntmps146
      go_wp2_with fail
      refine (HC.out _).mono ?_
      rintro e w2 ⟨rfl, rfl⟩
      go_wp2_with fail
      go_ret
      exact ⟨ret_bool HF.out.symm, rfl⟩
    · have d65 : ¬ (65 : Int) ≤ (c.toNat : Int) := by omega
      have hfin : inTok c = false := by rw [HIN.out, decide_eq_false h65]; rfl
      have HF := Lib.hid hfin
      clear hfin h65
      go_enter Tryd.func146, Tryd.ntmps146
      go_wp2_with fail
      refine (HC.out _).mono ?_
      rintro e w2 ⟨rfl, rfl⟩
      go_wp2_with fail
      go_ret
      exact ⟨ret_bool HF.out.symm, rfl⟩
set_option maxHeartbeats 800000 in
theorem within_lo (c : UInt8) (h : c.toNat < 128) (w : World) : Calls Tryd.prog 137 #[.int .i32 (c.toNat : Int)] w fun e w' => e = .returned (.bool (inTok c)) ∧ w = w' := by
  have cI := Lib.hid (media_inToken c)
  generalize inTok c = b at *
  have h1 : (c.toNat : Int) ≤ 127 := by omega
  have h2 : (c.toNat : Int) % 256 = (c.toNat : Int) := by omega
  go_enter Tryd.func137, Tryd.ntmps137
  go_wp2_with fail
  refine (cI.out _).mono ?_
  rintro e w2 ⟨rfl, rfl⟩
  go_wp2_with fail
  go_ret
  exact ⟨rfl, rfl⟩
theorem within_hi (r : Int) (h : 128 ≤ r) (w : World) : Calls Tryd.prog 137 #[.int .i32 r] w fun e w' => e = .returned (.bool false) ∧ w = w' := by
  have h1 : decide (r ≤ 127) = false := decide_eq_false (by omega)
  go_enter Tryd.func137, Tryd.ntmps137
  go_wp2_with fail
  go_ret
  exact ⟨rfl, rfl⟩
theorem inTok_lt {c : UInt8} (h : inTok c = true) : c.toNat < 128 := by
  have : ∀ n : Fin 256, inTok (UInt8.ofNat n.1) = true → (UInt8.ofNat n.1).toNat < 128 := by decide +kernel
  have h2 := this ⟨c.toNat, c.toNat_lt⟩
  simp only [UInt8.ofNat_toNat] at h2
  exact h2 h
/-- A text's token or none: a byte that stands in none. -/
theorem tokOk_no {s : ByteArray} {i : Nat} (hi : i < s.size) (h : inTok (byteAt s i) = false) : tokOk s.data.toList = false := by
  unfold tokOk
  have : s.data.toList.all inTok = false := by
    rw [List.all_eq_false]
    refine ⟨byteAt s i, ?_, by rw [h]; decide⟩
    unfold byteAt
    have hl : s.data.toList.length = s.size := rfl
    rw [List.getD, List.getElem?_eq_getElem (by omega)]
    exact List.getElem_mem _
  rw [this]; rfl
theorem tokOk_all {s : ByteArray} (h : ∀ i, i < s.size → inTok (byteAt s i) = true) : tokOk s.data.toList = (decide (1 ≤ s.size) && decide (s.size ≤ 100)) := by
  unfold tokOk
  have hl : s.data.toList.length = s.size := rfl
  have : s.data.toList.all inTok = true := by
    rw [List.all_eq_true]
    intro x hx
    obtain ⟨i, hi, rfl⟩ := List.mem_iff_getElem.1 hx
    have := h i (by omega)
    unfold byteAt at this
    rw [List.getD, List.getElem?_eq_getElem (by omega)] at this
    exact this
  rw [this, hl]; rfl
theorem below_iter (w : World) (s : ByteArray) (pos : Nat) : Below w.heap.size w (w.iter s pos) := (Below.refl _ _).alloc (Nat.le_refl _) _
set_option maxHeartbeats 1600000 in
set_option maxRecDepth 100000 in
theorem media_Token (s : ByteArray) (w : World) (hs : s.size ≤ 16777216) : Calls Tryd.prog 95 #[.string s] w fun e w' => e = .returned (.bool (tokOk s.data.toList)) ∧ Below w.heap.size w w' := by
  have hfin := @tokOk_all s
  have hno := fun i => @tokOk_no s i
  have HF := Lib.hid hfin
  have HNO := Lib.hid hno
  have cI := Lib.hid media_inToken
  clear hfin hno
  go_enter Tryd.func95, Tryd.ntmps95
  go_wp2_with fail
  go_loopw [4] (fun n w' => ∃ i : Nat, i ≤ s.size ∧ w' = w.iter s i ∧ ∀ j, j < i → inTok (byteAt s j) = true) (fun _ w' => s.size - w'.iterPos w.heap.size)
  case atStart => exact ⟨0, Nat.zero_le _, rfl, fun j hj => by omega⟩
  case round =>
    obtain ⟨i, hil, rfl, hall⟩ := hrel
    have HA := Lib.hid hall
    clear hall
    by_cases hlt : i < s.size
    · have hbi := byteAt_ix hlt
      by_cases h128 : (s[i]'hlt).toNat < 128
      · have hnx : ∀ ty, (Instr.next (.pointer (some ⟨w.heap.size, 0, none⟩)) true ty).run Tryd.prog (w.iter s i) = _ := fun ty => run_next_ascii w s i ty hlt h128
        have hst : inTok (byteAt s i) = true → ∀ j, j < i + 1 → inTok (byteAt s j) = true := fun h j hj => by
          by_cases hji : j = i
          · rw [hji]; exact h
          · exact HA.out j (by omega)
        have hn2 := HNO.out i hlt
        rw [hbi] at hst hn2
        have HST := Lib.hid hst
        have HN2 := Lib.hid hn2
        have hbt := (s[i]'hlt).toNat_lt
        have h127 : ((s[i]'hlt).toNat : Int) ≤ 127 := by omega
        have hw : ((s[i]'hlt).toNat : Int) % 256 = ((s[i]'hlt).toNat : Int) := by omega
        have cW := Lib.hid (within_lo (s[i]'hlt) h128)
        clear hst hn2 hbi
        go_wp2_with fail
        refine (cW.out _).mono ?_
        rintro e w2 ⟨rfl, rfl⟩
        cases hin : inTok (s[i]'hlt)
        · have HX := Lib.hid (HN2.out hin)
          clear hin
          go_wp2_with fail
          go_ret
          exact ⟨ret_bool HX.out.symm, below_iter w s _⟩
        · have HX := Lib.hid (HST.out hin)
          clear hin
          go_wp2_with fail
          go_roundw
          case rel => exact ⟨i + 1, by omega, rfl, HX.out⟩
          case measure => simp; omega
      · have hnx : ∀ ty, (Instr.next (.pointer (some ⟨w.heap.size, 0, none⟩)) true ty).run Tryd.prog (w.iter s i) = _ := fun ty => run_next_any w s i ty hlt
        have hhi := (decode_high s i hlt (by omega)).1
        have hlo := decode_le s i
        have hn2 := HNO.out i hlt (by
          cases h : inTok (byteAt s i) with
          | false => rfl
          | true => have := inTok_lt h; rw [hbi] at this; omega)
        have HN2 := Lib.hid hn2
        clear hn2 hbi
        go_wp2_with fail
        refine (within_hi _ (by omega) _).mono ?_
        rintro e w2 ⟨rfl, rfl⟩
        go_wp2_with fail
        go_ret
        exact ⟨ret_bool HN2.out.symm, below_iter w s _⟩
    · obtain rfl : i = s.size := by omega
      have hnx : ∀ ty, (Instr.next (.pointer (some ⟨w.heap.size, 0, none⟩)) true ty).run Tryd.prog (w.iter s s.size) = _ := fun ty => run_next_end w s s.size ty hlt
      have hr := HF.out HA.out
      have HR := Lib.hid hr
      clear hr
      by_cases h0 : s.size = 0
      · have e0 := isEmpty_yes h0
        have H0 := Lib.hid h0
        clear h0
        go_wp2_with fail
        go_ret
        exact ⟨ret_bool (by rw [HR.out, H0.out]; rfl), below_iter w s _⟩
      · have e0 := isEmpty_no (Nat.pos_of_ne_zero h0)
        have hd : decide ((s.size : Int) ≤ 100) = decide (s.size ≤ 100) := decide_eq_decide.2 (by omega)
        have HD := Lib.hid hd
        clear hd
        go_wp2_with fail
        go_ret
        exact ⟨ret_bool (by rw [HR.out, HD.out, decide_eq_true (by omega : 1 ≤ s.size)]; rfl), below_iter w s _⟩
end Go.Proofs.YteabhblbefglpaaDoor

/- An item in a variable of a function's own; given back out of it. -/
namespace Go.Proofs.YteabhblbefglpaaDoor
open Go.RowKit

theorem size_item : (Tryd.prog.info? 94).map (·.size) = some 3 := by kernel_rfl
def itemA (n v : ByteArray) (h : Bool) : Array Value := #[.string n, .string v, .bool h]
/-- In block g lies an item. -/
def ItemAt (w : World) (g : Nat) (n v : ByteArray) (h : Bool) : Prop := w.heap[g]? = some (.cells #[.string n, .string v, .bool h] 94 (0, 0))
section
variable {w w' : World} {g : Nat} {n v : ByteArray} {b : Bool}
theorem ItemAt.new : ItemAt (w.alloc (.cells #[.string n, .string v, .bool b] 94)) w.heap.size n v b := heap_alloc_new w _
theorem ItemAt.lt (h : ItemAt w g n v b) : g < w.heap.size := lt_of_block h
theorem ItemAt.below (h : ItemAt w g n v b) (hb : Below w.heap.size w w') : ItemAt w' g n v b := (hb.block g h.lt).trans h
theorem ItemAt.below' {B : Nat} (h : ItemAt w g n v b) (hb : Below B w w') (hB : g < B) : ItemAt w' g n v b := (hb.block g hB).trans h
theorem ItemAt.drewN (h : ItemAt w g n v b) (m : Nat) : ItemAt (w.drewN m) g n v b := h
theorem ItemAt.set (h : ItemAt w g n v b) (n' v' : ByteArray) (b' : Bool) : ItemAt (w.setRow g #[.string n', .string v', .bool b']) g n' v' b' := setRow_heap w g _ _ _ _ h
theorem ItemAt.setHas (h : ItemAt w g n v b) (b' : Bool) : ItemAt (w.setCell ⟨g, 2, none⟩ (.bool b')) g n v b' := by
  unfold ItemAt at h ⊢; simp [World.setCell, Array.getElem?_modify, h]
theorem ItemAt.setValue (h : ItemAt w g n v b) (v' : ByteArray) : ItemAt (w.setCell ⟨g, 1, none⟩ (.string v')) g n v' b := by
  unfold ItemAt at h ⊢; simp [World.setCell, Array.getElem?_modify, h]
theorem ItemAt.setName (h : ItemAt w g n v b) (n' : ByteArray) : ItemAt (w.setCell ⟨g, 0, none⟩ (.string n')) g n' v b := by
  unfold ItemAt at h ⊢; simp [World.setCell, Array.getElem?_modify, h]
theorem ItemAt.setOther (h : ItemAt w g n v b) {q : Nat} (hq : q ≠ g) (j : Nat) (u : Value) : ItemAt (w.setCell ⟨q, j, none⟩ u) g n v b := (Below.heap_setCell w ⟨q, j, none⟩ u g (fun e => hq e.symm)).trans h
theorem ItemAt.frozen (h : ItemAt w g n v b) (j : Nat) : w.frozen? ⟨g, j, none⟩ = false := by
  unfold ItemAt at h; simp [World.frozen?, h]
theorem ItemAt.load (h : ItemAt w g n v b) : (loadVar 94 ⟨g, 0, none⟩).run Tryd.prog w = .ok (.agg #[.string n, .string v, .bool b]) w :=
  run_loadVar_row w g _ _ _ _ _ h Tryd.underlying94 rfl (by rw [size_item]; rfl)
theorem ItemAt.cells (h : ItemAt w g n v b) : w.cell? ⟨g, 0, none⟩ = some (.string n) ∧ w.cell? ⟨g, 1, none⟩ = some (.string v) ∧ w.cell? ⟨g, 2, none⟩ = some (.bool b) := by
  unfold ItemAt at h
  refine ⟨?_, ?_, ?_⟩
  · rw [cell_of_row w g 0 _ _ _ h]; rfl
  · rw [cell_of_row w g 1 _ _ _ h]; rfl
  · rw [cell_of_row w g 2 _ _ _ h]; rfl
end
theorem below_setRowI {B : Nat} {a w : World} (h : Below B a w) {g : Nat} (hg : B ≤ g) (cs : Array Value) : Below B a (w.setRow g cs) :=
  ⟨h.os, h.tape, h.output, by simpa using h.size, fun k hk => (setRow_other w g k cs (by omega)).trans (h.block k hk)⟩
theorem FaultIs.setItem {w : World} {x : Value} {k i : Int} {m : Value} {g : Nat} {n v : ByteArray} {b : Bool} (h : FaultIs w x k i m) (hg : ItemAt w g n v b) (ds : Array Value) : FaultIs (w.setRow g ds) x k i m := by
  obtain ⟨q, rfl, hh⟩ := h
  have hne : q ≠ g := by
    rintro rfl
    unfold ItemAt at hg
    rw [hh] at hg
    injection hg with this
    injection this with h1 h2
    injection h1 with h3
    injection h3 with h4
    cases h4
  exact ⟨q, rfl, (setRow_other w g q ds hne).trans hh⟩
section
variable {fn : Func} {p u : Tmp} {tmps : Array Value} {w : World} {g : Nat} {n v : ByteArray} {b : Bool}
theorem results_item (h : fn.results = #[.cell p 94, .tmp u]) (hp : tmps.getD p undef = .pointer (some ⟨g, 0, none⟩)) (hg : ItemAt w g n v b) :
    (results fn tmps).run Tryd.prog w = .ok (.tuple #[.agg #[.string n, .string v, .bool b], tmps.getD u undef]) w := by
  rw [results_cell_tmp h, hp]
  simp [asAddr, Result.andThen, hg.load]
end
section
variable {w : World} {ops : Array Oper} {rest : List Oper} {o : Oper} {a : Act} {Q : Exit → Act → World → Prop}
theorem all_item (n v : ByteArray) (b : Bool) : (#[Value.string n, .string v, .bool b] : Array Value).all (·.oneCell') = true := by simp [Value.oneCell']
/-- An item is stored into a variable of the function's own. -/
theorem wpList_store_item (hgd : o.guard = none) (x y : Operand) (ho : o.op = .store 94 x y) (g : Nat) (n v : ByteArray) (b : Bool) (hx : a.eval x = .pointer (some ⟨g, 0, none⟩)) (hy : a.eval y = .agg #[.string n, .string v, .bool b]) (n0 v0 : ByteArray) (b0 : Bool) (hg : ItemAt w g n0 v0 b0)
    (h : ItemAt (w.setRow g #[.string n, .string v, .bool b]) g n v b → wpList Tryd.prog ops Q rest (a.put o.dst undef) (w.setRow g #[.string n, .string v, .bool b])) : wpList Tryd.prog ops Q (o :: rest) a w :=
  wpList_store_row hgd _ x y ho g _ hx hy _ _ hg (by rw [size_item]; rfl) rfl (all_item n v b) (h (hg.set _ _ _))
end
end Go.Proofs.YteabhblbefglpaaDoor

/- Items out of parts, one behind the other, as long as nothing is wrong: plain facts. -/
namespace Go.Proofs.YteabhblbefglpaaDoor

/-- What a part gives (are there as many items as may be?): nothing, an error's kind and place, or an item. -/
abbrev StepG := ByteArray → Bool → Option (Except (Nat × Nat) It)
structure RightG (g : StepG) : Prop where
  kind : ∀ p b k i, g p b = some (.error (k, i)) → k ≠ 0
  none : ∀ p b b', g p b = none → g p b' = none
  full : ∀ p x, g p true ≠ some (.ok x)
section
variable (g : StepG) (most : Nat)
/-- Parts' items behind those that there are, the error's kind, its place. -/
def goG : List ByteArray → Nat → List It → List It × Nat × Nat
  | [], _, acc => (acc, 0, 0)
  | p :: ps, at_, acc => match g p (decide (acc.length = most)) with
    | none => goG ps (at_ + p.size + 1) acc
    | some (.error (k, i)) => ([], k, at_ + i)
    | some (.ok x) => goG ps (at_ + p.size + 1) (acc ++ [x])
variable {g most} {p : ByteArray} {ps : List ByteArray} {at_ k i : Nat} {acc : List It} {x : It}
theorem goG_nil : goG g most [] at_ acc = (acc, 0, 0) := rfl
theorem goG_none (h : g p (decide (acc.length = most)) = none) : goG g most (p :: ps) at_ acc = goG g most ps (at_ + p.size + 1) acc := by rw [goG, h]
theorem goG_bad (h : g p (decide (acc.length = most)) = some (.error (k, i))) : goG g most (p :: ps) at_ acc = ([], k, at_ + i) := by rw [goG, h]
theorem goG_ok (h : g p (decide (acc.length = most)) = some (.ok x)) : goG g most (p :: ps) at_ acc = goG g most ps (at_ + p.size + 1) (acc ++ [x]) := by rw [goG, h]
end
/-- A part's three ways. -/
theorem goG_ways (g : StepG) (most : Nat) (p : ByteArray) (acc : List It) : g p (decide (acc.length = most)) = none ∨ (∃ k i, g p (decide (acc.length = most)) = some (.error (k, i))) ∨ ∃ x, g p (decide (acc.length = most)) = some (.ok x) := by
  cases g p (decide (acc.length = most)) with
  | none => exact .inl rfl
  | some r => cases r with
    | error e => exact .inr (.inl ⟨e.1, e.2, rfl⟩)
    | ok x => exact .inr (.inr ⟨x, rfl⟩)
section
variable {g : StepG} {most : Nat} (hg : RightG g)
include hg
theorem goG_len : ∀ (ps : List ByteArray) (at_ : Nat) (acc : List It), acc.length ≤ most → (goG g most ps at_ acc).1.length ≤ most
  | [], _, acc, h => h
  | p :: ps, at_, acc, h => by
    rcases goG_ways g most p acc with h1 | ⟨k, i, h1⟩ | ⟨x, h1⟩
    · rw [goG_none h1]; exact goG_len ps _ _ h
    · rw [goG_bad h1]; simp
    · rw [goG_ok h1]
      refine goG_len ps _ _ ?_
      have : acc.length ≠ most := fun e => by rw [decide_eq_true e] at h1; exact hg.full p x h1
      simp; omega
omit hg in
theorem goG_empty : ∀ (ps : List ByteArray) (at_ : Nat) (acc : List It), (goG g most ps at_ acc).2.1 ≠ 0 → (goG g most ps at_ acc).1 = []
  | [], _, acc, h => absurd rfl h
  | p :: ps, at_, acc, h => by
    rcases goG_ways g most p acc with h1 | ⟨k, i, h1⟩ | ⟨x, h1⟩
    · rw [goG_none h1] at h ⊢; exact goG_empty ps _ _ h
    · rw [goG_bad h1]
    · rw [goG_ok h1] at h ⊢; exact goG_empty ps _ _ h
theorem goG_zero : ∀ (ps : List ByteArray) (at_ : Nat) (acc : List It), (goG g most ps at_ acc).2.1 = 0 → (goG g most ps at_ acc).2.2 = 0
  | [], _, acc, h => rfl
  | p :: ps, at_, acc, h => by
    rcases goG_ways g most p acc with h1 | ⟨k, i, h1⟩ | ⟨x, h1⟩
    · rw [goG_none h1] at h ⊢; exact goG_zero ps _ _ h
    · rw [goG_bad h1] at h; exact absurd h (hg.kind _ _ _ _ h1)
    · rw [goG_ok h1] at h ⊢; exact goG_zero ps _ _ h
theorem goG_grow : ∀ (ps : List ByteArray) (at_ : Nat) (acc : List It), (goG g most ps at_ acc).2.1 = 0 → ∃ l, (goG g most ps at_ acc).1 = acc ++ l
  | [], _, acc, _ => ⟨[], by rw [goG_nil]; simp⟩
  | p :: ps, at_, acc, h => by
    rcases goG_ways g most p acc with h1 | ⟨k, i, h1⟩ | ⟨x, h1⟩
    · rw [goG_none h1] at h ⊢; exact goG_grow ps _ _ h
    · rw [goG_bad h1] at h; exact absurd h (hg.kind _ _ _ _ h1)
    · rw [goG_ok h1] at h ⊢
      obtain ⟨l, e⟩ := goG_grow ps _ _ h
      exact ⟨x :: l, by rw [e]; simp⟩
theorem goG_app : ∀ (ps qs : List ByteArray) (at_ : Nat) (acc : List It), goG g most (ps ++ qs) at_ acc = if (goG g most ps at_ acc).2.1 = 0 then goG g most qs (at_ + (ps.map fun p => p.size + 1).sum) (goG g most ps at_ acc).1 else goG g most ps at_ acc
  | [], qs, at_, acc => by simp [goG_nil]
  | p :: ps, qs, at_, acc => by
    rw [List.cons_append]
    have e : at_ + ((p :: ps).map fun p => p.size + 1).sum = at_ + p.size + 1 + (ps.map fun p => p.size + 1).sum := by rw [List.map_cons, List.sum_cons]; omega
    rcases goG_ways g most p acc with h1 | ⟨k, i, h1⟩ | ⟨x, h1⟩
    · rw [goG_none h1, goG_none h1, goG_app ps qs, e]
    · rw [goG_bad h1, goG_bad h1, if_neg (hg.kind _ _ _ _ h1)]
    · rw [goG_ok h1, goG_ok h1, goG_app ps qs, e]
/-- From another place, behind other items: the same items. -/
theorem goG_move : ∀ (ps : List ByteArray) (a1 a2 : Nat) (x acc : List It), (goG g most ps a1 acc).2.1 = 0 → x.length + (goG g most ps a1 acc).1.length ≤ most → goG g most ps a2 (x ++ acc) = (x ++ (goG g most ps a1 acc).1, 0, 0)
  | [], a1, a2, x, acc, _, _ => rfl
  | p :: ps, a1, a2, x, acc, h, h2 => by
    rcases goG_ways g most p acc with h1 | ⟨k, i, h1⟩ | ⟨y, h1⟩
    · rw [goG_none h1] at h h2 ⊢
      rw [goG_none (hg.none _ _ _ h1)]
      exact goG_move ps _ _ x acc h h2
    · rw [goG_bad h1] at h; exact absurd h (hg.kind _ _ _ _ h1)
    · rw [goG_ok h1] at h h2 ⊢
      obtain ⟨l, e⟩ := goG_grow hg ps _ _ h
      have hl := congrArg List.length e
      simp only [List.length_append, List.length_cons, List.length_nil] at hl
      have h3 : acc.length ≠ most := fun e => by rw [decide_eq_true e] at h1; exact hg.full p y h1
      have h4 : (x ++ acc).length ≠ most := by simp; omega
      rw [decide_eq_false h3] at h1
      have h5 : g p (decide ((x ++ acc).length = most)) = some (.ok y) := by rw [decide_eq_false h4]; exact h1
      rw [goG_ok h5, List.append_assoc]
      exact goG_move ps _ _ x (acc ++ [y]) h h2
end
/-- The parts of a text between marks. -/
def partsB (c : UInt8) (s : ByteArray) : List ByteArray := (splitL c s.data.toList).map ofL
theorem partsB_app (c : UInt8) (s t : ByteArray) : partsB c (s ++ ofL [c] ++ t) = partsB c s ++ partsB c t := by
  unfold partsB
  rw [← List.map_append, ← splitL_app c t.data.toList s.data.toList.length s.data.toList (Nat.le_refl _)]
  congr 2
  rw [ByteArray.data_append, ByteArray.data_append]
  simp [ofL]
section
variable {g : StepG} {most : Nat} (hg : RightG g)
include hg
theorem goG_both (c : UInt8) (s t : ByteArray) (h1 : (goG g most (partsB c s) 0 []).2.1 = 0) (h2 : (goG g most (partsB c t) 0 []).2.1 = 0) (h3 : (goG g most (partsB c s) 0 []).1.length + (goG g most (partsB c t) 0 []).1.length ≤ most) :
    goG g most (partsB c (s ++ ofL [c] ++ t)) 0 [] = ((goG g most (partsB c s) 0 []).1 ++ (goG g most (partsB c t) 0 []).1, 0, 0) := by
  rw [partsB_app, goG_app hg, if_pos h1]
  have := goG_move hg (partsB c t) 0 (0 + ((partsB c s).map fun p => p.size + 1).sum) (goG g most (partsB c s) 0 []).1 [] h2 h3
  rw [List.append_nil] at this
  exact this
theorem goG_first (c : UInt8) (s t : ByteArray) (h1 : (goG g most (partsB c s) 0 []).2.1 ≠ 0) : goG g most (partsB c (s ++ ofL [c] ++ t)) 0 [] = goG g most (partsB c s) 0 [] := by
  rw [partsB_app, goG_app hg, if_neg h1]
end
end Go.Proofs.YteabhblbefglpaaDoor

/- strings.Cut and strings.Split at a mark of one byte. -/
namespace Go.Proofs.YteabhblbefglpaaDoor
open Go.RowKit

theorem cut_full (s : ByteArray) (n : Nat) (h : n = s.size) : s.extract 0 n = s := by
  subst h
  apply ByteArray.ext
  apply Array.ext'
  rw [Lib.extract_data]
  have hl : s.data.toList.length = s.size := rfl
  rw [List.drop_zero, Nat.sub_zero, ← hl, List.take_length]
set_option maxHeartbeats 1600000 in
set_option maxRecDepth 100000 in
theorem lite_Cut1 (s : ByteArray) (c : UInt8) (w : World) (hs : s.size ≤ 16777216) : Calls Tryd.prog 125 #[.string s, .string ⟨#[c]⟩] w fun e w' => e = .returned (.tuple #[.string (cutN c s), .string (cutV c s), .bool (cutH c s)]) ∧ ∃ q, w.drewN q = w' := by
  have cI := Lib.hid (Tryd.stringslite_Index_one s c)
  have h1 : (⟨#[c]⟩ : ByteArray).size = 1 := rfl
  rcases cut_ways c s with ⟨hi, e1, e2, e3, _⟩ | ⟨i, hi, hlt, e1, e2, e3, _⟩
  · rw [e1, e2, e3]
    rw [hi] at cI
    clear hi e1 e2 e3
    go_enter Tryd.func125, Tryd.ntmps125
    go_wp2_with fail
    refine (cI.out _).mono ?_
    rintro e w1 ⟨rfl, rfl⟩
    go_wp2_with fail
    go_ret3
    exact ⟨rfl, 0, rfl⟩
  · rw [e1, e2, e3]
    rw [hi] at cI
    clear hi e1 e2 e3
    go_enter Tryd.func125, Tryd.ntmps125
    go_wp2_with fail
    refine (cI.out _).mono ?_
    rintro e w1 ⟨rfl, rfl⟩
    go_wp2_with fail
    go_quiet (fail)
    go_wp2_with fail
    go_ret3
    exact ⟨rfl, _, rfl⟩
theorem strings_Cut1 (s : ByteArray) (c : UInt8) (w : World) (hs : s.size ≤ 16777216) : Calls Tryd.prog 87 #[.string s, .string ⟨#[c]⟩] w fun e w' => e = .returned (.tuple #[.string (cutN c s), .string (cutV c s), .bool (cutH c s)]) ∧ ∃ q, w.drewN q = w' := by
  have cI := Lib.hid (fun W => lite_Cut1 s c W hs)
  generalize cutN c s = a at *
  generalize cutV c s = b at *
  generalize cutH c s = h at *
  go_enter Tryd.func87, Tryd.ntmps87
  go_wp2_with fail
  refine (cI.out _).mono ?_
  rintro e w1 ⟨rfl, q, rfl⟩
  go_wp2_with fail
  go_ret3
  exact ⟨rfl, _, rfl⟩

theorem split_pieces (c : UInt8) (s : ByteArray) : Lib.splitB ⟨#[c]⟩ 0 (Lib.countB s ⟨#[c]⟩) s = partsB c s := by
  have h := splitB_is c s
  unfold partsB
  rw [← h, List.map_map]
  conv => lhs; rw [← List.map_id (Lib.splitB _ _ _ _)]
  apply List.map_congr_left
  intro x _
  show x = ofL x.data.toList
  exact (ofL_list x).symm
theorem info_str : (Tryd.prog.info? 9).map (fun i => (i.zero, i.size, i.bytes)) = some (some (.string ByteArray.empty), 1, 16) := by kernel_rfl
theorem gen_Split1 (s : ByteArray) (c : UInt8) (w : World) (hs : s.size ≤ 16777216) : Calls Tryd.prog 86 #[.string s, .string ⟨#[c]⟩, .int .i64 0, .int .i64 (-1)] w fun e w' =>
    e = .returned (.slice (some ⟨w.heap.size, 0, none⟩) (partsB c s).length (partsB c s).length) ∧ w' = w.alloc (.cells ((partsB c s).map Value.string).toArray 9) := by
  have h1 : 1 ≤ (⟨#[c]⟩ : ByteArray).size := Nat.le_refl _
  have hle := Lib.countB_le ⟨#[c]⟩ h1 s.size s (Nat.le_refl _)
  have hlen := Lib.splitB_all ⟨#[c]⟩ h1 0 _ s rfl
  have hx : ∀ (x : ByteArray), Lib.indexB x ⟨#[c]⟩ = Lib.indexByte x.data.toList c := fun x => Lib.index_one x.data.toList c
  have hcount : Lib.countB s ⟨#[c]⟩ = Lib.countByte s.data.toList c := Lib.count_one c s.data.toList
  have h := Any.strings_genSplit_core Tryd.lays221 info_str s ⟨#[c]⟩ 0 (-1) (Lib.countB s ⟨#[c]⟩ + 1) w (by omega) h1 (Nat.zero_le _)
    (fun x cs _ => by rw [hx]; exact Tryd.strings_Index_one x c _) (by rw [hcount]; exact Tryd.strings_Count_one s c w) (by decide) (by decide) (by rw [if_pos (by decide)]; omega)
  rw [Nat.add_sub_cancel, hlen] at h
  have e2 : Lib.cellsOf (Lib.splitB ⟨#[c]⟩ 0 (Lib.countB s ⟨#[c]⟩) s) (Lib.countB s ⟨#[c]⟩ + 1) = ((Lib.splitB ⟨#[c]⟩ 0 (Lib.countB s ⟨#[c]⟩) s).map Value.string).toArray := by rw [← hlen]; exact Lib.cellsOf_full _
  rw [e2] at h
  rw [split_pieces] at h hlen
  rw [← hlen] at h
  exact h
theorem strings_Split1 (s : ByteArray) (c : UInt8) (w : World) (hs : s.size ≤ 16777216) : Calls Tryd.prog 56 #[.string s, .string ⟨#[c]⟩] w fun e w' =>
    e = .returned (.slice (some ⟨w.heap.size, 0, none⟩) (partsB c s).length (partsB c s).length) ∧ w.alloc (.cells ((partsB c s).map Value.string).toArray 9) = w' := by
  have cS := Lib.hid (fun W => gen_Split1 s c W hs)
  generalize partsB c s = ps at *
  go_enter Tryd.func56, Tryd.ntmps56
  go_wp2_with fail
  refine (cS.out _).mono ?_
  rintro e w1 ⟨rfl, rfl⟩
  go_wp2_with fail
  go_ret
  exact ⟨rfl, rfl⟩
theorem sum_mem : ∀ (l : List Nat) (x : Nat), x ∈ l → x ≤ l.sum
  | y :: l, x, h => by
    rcases List.mem_cons.1 h with rfl | h
    · rw [List.sum_cons]; omega
    · have := sum_mem l x h; rw [List.sum_cons]; omega
/-- The parts lie in a row. -/
theorem parts_cells (w : World) (ps : List ByteArray) : ∀ i p, ps[i]? = some p → (w.alloc (.cells (ps.map Value.string).toArray 9)).cell? ⟨w.heap.size, i, none⟩ = some (.string p) := by
  intro i p h
  rw [World.cell?_alloc_at _ _ _ _ rfl]
  simp [h]
theorem partsB_sizes (c : UInt8) (s : ByteArray) : ∀ p ∈ partsB c s, p.size ≤ s.size := by
  intro p hp
  unfold partsB at hp
  obtain ⟨l, hl, rfl⟩ := List.mem_map.1 hp
  have h := splitL_len c _ s.data.toList (Nat.le_refl _)
  have hs : s.data.toList.length = s.size := rfl
  have h2 : l.length ≤ ((splitL c s.data.toList).map List.length).sum := sum_mem _ _ (List.mem_map.2 ⟨l, hl, rfl⟩)
  have h3 : 1 ≤ (splitL c s.data.toList).length := List.length_pos_iff.2 (splitL_ne c _)
  rw [ofL_size]
  omega
theorem partsB_len (c : UInt8) (s : ByteArray) : (partsB c s).length ≤ s.size + 1 := by
  have h := splitL_len c _ s.data.toList (Nat.le_refl _)
  have hs : s.data.toList.length = s.size := rfl
  unfold partsB
  rw [List.length_map]
  omega
end Go.Proofs.YteabhblbefglpaaDoor

/- A call's own bytes, as a string. -/
namespace Go.Proofs.YteabhblbefglpaaDoor
open Go.RowKit

theorem BytesSl.conv {w : World} {a : Option Addr} {len cap : Nat} {s : ByteArray} (h : BytesSl w (.slice a len cap) s) : (convert 23 9 (.slice a len cap)).run Tryd.prog w = .ok (.string s) w := by
  rcases h with ⟨h0, a', cap', e⟩ | ⟨b, off, cap', e, h1, h2, h3, h4⟩
  · cases e
    have hs : s = ⟨#[]⟩ := by
      apply ByteArray.ext
      apply Array.eq_empty_of_size_eq_zero
      exact h0
    subst hs
    cases a with
    | none =>
      exact run_convert_bytes_nil w 23 5 Tryd.underlying23 Tryd.underlying5 0 cap 9 Tryd.underlying9
    | some ad =>
      have := run_convert_bytes_back (P := Tryd.prog) w 23 9 5 ad cap [] Tryd.underlying23 Tryd.underlying5 Tryd.underlying9 (fun j hj => by simp at hj)
      exact this
  · cases e
    have := run_convert_bytes_back (P := Tryd.prog) w 23 9 5 ⟨b, off, none⟩ cap s.data.toList Tryd.underlying23 Tryd.underlying5 Tryd.underlying9 (fun j hj => by
      have hj' : j < s.size := hj
      rw [Addr.add_lit, h4 j hj']
      simp [byteAt, List.getD, List.getElem?_eq_getElem hj])
    exact this
theorem OwnB.conv {w : World} {base : Nat} {v : Value} {l : List UInt8} (h : OwnB w base v l) : (convert 23 9 v).run Tryd.prog w = .ok (.string ⟨l.toArray⟩) w := by
  rcases h.shape with ⟨rfl, rfl⟩ | ⟨g, cap, rfl, h1, h2, h3, h4⟩
  · exact BytesSl.conv h.sl
  · exact BytesSl.conv h.sl
end Go.Proofs.YteabhblbefglpaaDoor
