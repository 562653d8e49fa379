/- Of the reference of chapter 14: first, Web, own; of chapter 04: letter, digit. -/
import Derived.Test.YtibhohpamnpkcaaGreatDoorRouteOrderM1
import Derived.Laws.Tables
import Derived.Laws.ResultCell
import Derived.Test.YtibhohpamnpkcaaGreatDoorShelf
import Derived.Shelf.Spec.BitsCarry

namespace Go.Proofs.YtibhohpamnpkcaaGreatDoor
open Go.RowKit

def firstF (s marks : ByteArray) : Nat → Nat → Nat
  | 0, _ => s.size
  | f + 1, i => if hasB marks (byteAt s i) = true then i else firstF s marks f (i + 1)
/-- The first place from one on at which one of some bytes stands; the end, if none does. -/
def firstM (s : ByteArray) (i : Nat) (marks : ByteArray) : Nat := firstF s marks (s.size - i) i
theorem firstM_hit {s : ByteArray} {i : Nat} {marks : ByteArray} (hi : i < s.size) (h : hasB marks (byteAt s i) = true) : firstM s i marks = i := by
  unfold firstM
  obtain ⟨f, hf⟩ : ∃ f, s.size - i = f + 1 := ⟨s.size - i - 1, by omega⟩
  rw [hf, firstF, if_pos h]
theorem firstM_next {s : ByteArray} {i : Nat} {marks : ByteArray} (hi : i < s.size) (h : hasB marks (byteAt s i) = false) : firstM s i marks = firstM s (i + 1) marks := by
  unfold firstM
  obtain ⟨f, hf⟩ : ∃ f, s.size - i = f + 1 := ⟨s.size - i - 1, by omega⟩
  rw [hf, firstF, if_neg (by rw [h]; decide), show s.size - (i + 1) = f by omega]
theorem firstM_end {s : ByteArray} {i : Nat} {marks : ByteArray} (hi : s.size ≤ i) : firstM s i marks = s.size := by
  unfold firstM
  rw [show s.size - i = 0 by omega, firstF]
theorem firstM_le (s : ByteArray) (marks : ByteArray) : ∀ (n i : Nat), s.size - i = n → i ≤ s.size → i ≤ firstM s i marks ∧ firstM s i marks ≤ s.size := by
  intro n
  induction n with
  | zero => intro i h1 h2; rw [firstM_end (by omega)]; omega
  | succ n ih =>
    intro i h1 h2
    by_cases h : hasB marks (byteAt s i) = true
    · rw [firstM_hit (by omega) h]; omega
    · rw [firstM_next (by omega) (by simpa using h)]
      have := ih (i + 1) (by omega) (by omega)
      omega
theorem byteAt_el {s : ByteArray} {k : Nat} (hlt : k < s.size) : byteAt s k = s[k] := by simp [byteAt, List.getD, hlt]; rfl
def webB (s : ByteArray) : Bool := decide (s = ⟨#[104, 116, 116, 112]⟩) || decide (s = ⟨#[104, 116, 116, 112, 115]⟩)
def ownN (s : ByteArray) : Int := if s = ⟨#[104, 116, 116, 112]⟩ then 80 else if s = ⟨#[104, 116, 116, 112, 115]⟩ then 443 else -1
def letB04 (c : UInt8) : Bool := decide (97 ≤ smallN c.toNat ∧ smallN c.toNat ≤ 122)
def digB04 (c : UInt8) : Bool := decide (48 ≤ c.toNat ∧ c.toNat ≤ 57)
set_option maxHeartbeats 800000 in
theorem ref14_first (s marks : ByteArray) (i0 : Nat) (w : World) (hs : s.size ≤ 16777216) (hm : marks.size ≤ 16777216) (h0 : i0 ≤ s.size) :
    Calls Tryz.prog 57 #[.string s, .int .i64 (i0 : Int), .string marks] w fun e w' => e = .returned (.int .i64 ((firstM s i0 marks : Nat) : Int)) ∧ w = w' := by
  have CH := Lib.hid (fun c W => ref_Has marks c W (by omega))
  clear hm
  go_enter Tryz.func57, Tryz.ntmps57
  go_wp2_with fail
  go_loop [7] (fun x => ∃ i : Nat, i0 ≤ i ∧ i ≤ s.size ∧ x = .int .i64 i ∧ firstM s i0 marks = firstM s i marks) (fun x => s.size - (intOf x).toNat)
  case atStart => exact ⟨i0, Nat.le_refl _, h0, rfl, rfl⟩
  case round =>
    obtain ⟨i, hi0, hil, rfl, hf⟩ := hrel
    have HF := Lib.hid hf
    clear hf
    by_cases hlt : i < s.size
    · have hb := byteAt_el hlt
      have C := Lib.hid (fun W => CH.out s[i] W)
      have HH := Lib.hid (@firstM_hit s i marks hlt)
      have HN := Lib.hid (@firstM_next s i marks hlt)
      rw [hb] at HH HN
      clear hb
      generalize hasB marks s[i] = r at *
      go_wp2_with fail
      refine (C.out _).mono ?_
      rintro e w2 ⟨rfl, rfl⟩
      cases r
      · have HX := Lib.hid (HF.out.trans (HN.out rfl))
        go_wp2_with fail
        go_round
        case rel => exact ⟨i + 1, by omega, by omega, by go_num, HX.out⟩
        case measure => simp [intOf]; omega
      · have HX := Lib.hid (HF.out.trans (HH.out rfl))
        go_wp2_with fail
        go_ret
        exact ⟨ret_i64 (by rw [HX.out]), rfl⟩
    · obtain rfl : i = s.size := by omega
      have HX := Lib.hid (HF.out.trans (firstM_end (Nat.le_refl _)))
      go_wp2_with fail
      go_ret
      exact ⟨ret_i64 (by rw [HX.out]), rfl⟩
theorem str_is {s : ByteArray} {l : List UInt8} (h : s = ⟨l.toArray⟩) : (s.toList == l) = true := by rw [ByteArray.toList_eq, h]; simp
theorem str_isnt {s : ByteArray} {l : List UInt8} (h : s ≠ ⟨l.toArray⟩) : (s.toList == l) = false := by
  rw [ByteArray.toList_eq, beq_eq_false_iff_ne]
  intro e
  apply h
  cases s with
  | mk d => cases d; simp at e; rw [e]
theorem ref14_Web (s : ByteArray) (w : World) :
    Calls Tryz.prog 59 #[.string s] w fun e w' => e = .returned (.bool (webB s)) ∧ w = w' := by
  by_cases h1 : s = ⟨#[104, 116, 116, 112]⟩
  · have HX := Lib.hid (show webB s = true by unfold webB; rw [decide_eq_true h1]; rfl)
    have e1 := str_is (l := [104, 116, 116, 112]) h1
    clear h1
    go_enter Tryz.func59, Tryz.ntmps59
    go_wp2_with fail
    go_ret
    exact ⟨ret_bool HX.out.symm, rfl⟩
  · by_cases h2 : s = ⟨#[104, 116, 116, 112, 115]⟩
    · have HX := Lib.hid (show webB s = true by unfold webB; rw [decide_eq_true h2]; simp)
      have e1 := str_isnt (l := [104, 116, 116, 112]) h1
      have e2 := str_is (l := [104, 116, 116, 112, 115]) h2
      clear h1 h2
      go_enter Tryz.func59, Tryz.ntmps59
      go_wp2_with fail
      go_ret
      exact ⟨ret_bool HX.out.symm, rfl⟩
    · have HX := Lib.hid (show webB s = false by unfold webB; rw [decide_eq_false h1, decide_eq_false h2]; rfl)
      have e1 := str_isnt (l := [104, 116, 116, 112]) h1
      have e2 := str_isnt (l := [104, 116, 116, 112, 115]) h2
      clear h1 h2
      go_enter Tryz.func59, Tryz.ntmps59
      go_wp2_with fail
      go_ret
      exact ⟨ret_bool HX.out.symm, rfl⟩
theorem ref14_own (s : ByteArray) (w : World) :
    Calls Tryz.prog 56 #[.string s] w fun e w' => e = .returned (.int .i64 (ownN s)) ∧ w = w' := by
  by_cases h1 : s = ⟨#[104, 116, 116, 112]⟩
  · have HX := Lib.hid (show ownN s = 80 by unfold ownN; rw [if_pos h1])
    have e1 := str_is (l := [104, 116, 116, 112]) h1
    clear h1
    go_enter Tryz.func56, Tryz.ntmps56
    go_wp2_with fail
    go_ret
    exact ⟨ret_i64 HX.out.symm, rfl⟩
  · by_cases h2 : s = ⟨#[104, 116, 116, 112, 115]⟩
    · have HX := Lib.hid (show ownN s = 443 by unfold ownN; rw [if_neg h1, if_pos h2])
      have e1 := str_isnt (l := [104, 116, 116, 112]) h1
      have e2 := str_is (l := [104, 116, 116, 112, 115]) h2
      clear h1 h2
      go_enter Tryz.func56, Tryz.ntmps56
      go_wp2_with fail
      go_ret
      exact ⟨ret_i64 HX.out.symm, rfl⟩
    · have HX := Lib.hid (show ownN s = -1 by unfold ownN; rw [if_neg h1, if_neg h2])
      have e1 := str_isnt (l := [104, 116, 116, 112]) h1
      have e2 := str_isnt (l := [104, 116, 116, 112, 115]) h2
      clear h1 h2
      go_enter Tryz.func56, Tryz.ntmps56
      go_wp2_with fail
      go_ret
      exact ⟨ret_i64 HX.out.symm, rfl⟩
theorem ref04_letter (c : UInt8) (w : World) :
    Calls Tryz.prog 103 #[.int .u8 (c.toNat : Int)] w fun e w' => e = .returned (.bool (letB04 c)) ∧ w = w' := by
  have CS := Lib.hid (fun W => ref_Small c.toNat c.toNat_lt W)
  have HX := Lib.hid (show letB04 c = decide (97 ≤ smallN c.toNat ∧ smallN c.toNat ≤ 122) from rfl)
  generalize smallN c.toNat = m at *
  go_enter Tryz.func103, Tryz.ntmps103
  go_wp2_with fail
  refine (CS.out _).mono ?_
  rintro e w2 ⟨rfl, rfl⟩
  by_cases h1 : 97 ≤ m
  · have e1 : (97 : Int) ≤ (m : Int) := by omega
    by_cases h2 : m ≤ 122
    · have e2 : decide ((m : Int) ≤ 122) = true := decide_eq_true (by omega)
      have HY := Lib.hid (HX.out.trans (decide_eq_true ⟨h1, h2⟩))
      clear h1 h2
      go_wp2_with fail
      go_ret
      exact ⟨ret_bool HY.out.symm, rfl⟩
    · have e2 : decide ((m : Int) ≤ 122) = false := decide_eq_false (by omega)
      have HY := Lib.hid (HX.out.trans (decide_eq_false (fun h => h2 h.2)))
      clear h1 h2
      go_wp2_with fail
      go_ret
      exact ⟨ret_bool HY.out.symm, rfl⟩
  · have e1 : ¬ (97 : Int) ≤ (m : Int) := by omega
    have HY := Lib.hid (HX.out.trans (decide_eq_false (fun h => h1 h.1)))
    clear h1
    go_wp2_with fail
    go_ret
    exact ⟨ret_bool HY.out.symm, rfl⟩
theorem ref04_digit (c : UInt8) (w : World) :
    Calls Tryz.prog 104 #[.int .u8 (c.toNat : Int)] w fun e w' => e = .returned (.bool (digB04 c)) ∧ w = w' := by
  have HX := Lib.hid (show digB04 c = decide (48 ≤ c.toNat ∧ c.toNat ≤ 57) from rfl)
  generalize c.toNat = m at *
  go_enter Tryz.func104, Tryz.ntmps104
  by_cases h1 : 48 ≤ m
  · have e1 : (48 : Int) ≤ (m : Int) := by omega
    by_cases h2 : m ≤ 57
    · have e2 : decide ((m : Int) ≤ 57) = true := decide_eq_true (by omega)
      have HY := Lib.hid (HX.out.trans (decide_eq_true ⟨h1, h2⟩))
      clear h1 h2
      go_wp2_with fail
      go_ret
      exact ⟨ret_bool HY.out.symm, rfl⟩
    · have e2 : decide ((m : Int) ≤ 57) = false := decide_eq_false (by omega)
      have HY := Lib.hid (HX.out.trans (decide_eq_false (fun h => h2 h.2)))
      clear h1 h2
      go_wp2_with fail
      go_ret
      exact ⟨ret_bool HY.out.symm, rfl⟩
  · have e1 : ¬ (48 : Int) ≤ (m : Int) := by omega
    have HY := Lib.hid (HX.out.trans (decide_eq_false (fun h => h1 h.1)))
    clear h1
    go_wp2_with fail
    go_ret
    exact ⟨ret_bool HY.out.symm, rfl⟩
end Go.Proofs.YtibhohpamnpkcaaGreatDoor

/- Blocks that a call has just made. -/
namespace Go.Proofs.YtibhohpamnpkcaaGreatDoor
open Go.RowKit

/-- In block g lie these cells. -/
def BlkAt (w : World) (g : Nat) (t : TypeId) (c : Array Value) : Prop := w.heap[g]? = some (.cells c t (0, 0))
theorem BlkAt.lt {w : World} {g : Nat} {t : TypeId} {c : Array Value} (h : BlkAt w g t c) : g < w.heap.size := lt_of_block h
theorem BlkAt.below {w w' : World} {g : Nat} {t : TypeId} {c : Array Value} (h : BlkAt w g t c) (hb : Below w.heap.size w w') : BlkAt w' g t c := (hb.block _ (lt_of_block h)).trans h
theorem BlkAt.low {B : Nat} {w w' : World} {g : Nat} {t : TypeId} {c : Array Value} (h : BlkAt w g t c) (hb : Below B w w') (hg : g < B) : BlkAt w' g t c := (hb.block _ hg).trans h
theorem BlkAt.cell {w : World} {g : Nat} {t : TypeId} {c : Array Value} (h : BlkAt w g t c) (j : Nat) (v : Value) (hv : c[j]? = some v) : w.cell? ⟨g, j, none⟩ = some v := (cell_of_row _ _ j _ _ _ h).trans hv
theorem BlkAt.new (w : World) (c : Array Value) (t : TypeId) : BlkAt (w.alloc (.cells c t)) w.heap.size t c := heap_alloc_new w _
theorem below_alloc (w : World) (o : Obj) : Below w.heap.size w (w.alloc o) := (Below.refl _ _).alloc (Nat.le_refl _) _
theorem BlkAt.alloc {w : World} {g : Nat} {t : TypeId} {c : Array Value} (h : BlkAt w g t c) (o : Obj) : BlkAt (w.alloc o) g t c := h.below (below_alloc w o)
theorem BlkAt.new1 (w : World) (o : Obj) (c : Array Value) (t : TypeId) : BlkAt ((w.alloc o).alloc (.cells c t)) (w.heap.size + 1) t c := by
  have := BlkAt.new (w.alloc o) c t
  rw [World.size_alloc] at this
  exact this
theorem BlkAt.new2 (w : World) (o o' : Obj) (c : Array Value) (t : TypeId) : BlkAt (((w.alloc o).alloc o').alloc (.cells c t)) (w.heap.size + 1 + 1) t c := by
  have := BlkAt.new ((w.alloc o).alloc o') c t
  rw [World.size_alloc, World.size_alloc] at this
  exact this
theorem BlkAt.new3 (w : World) (o o' o'' : Obj) (c : Array Value) (t : TypeId) : BlkAt ((((w.alloc o).alloc o').alloc o'').alloc (.cells c t)) (w.heap.size + 1 + 1 + 1) t c := by
  have := BlkAt.new (((w.alloc o).alloc o').alloc o'') c t
  rw [World.size_alloc, World.size_alloc, World.size_alloc] at this
  exact this
theorem below_alloc2 (w : World) (o o' : Obj) : Below w.heap.size w ((w.alloc o).alloc o') := Bt (below_alloc w o) (below_alloc _ o')
theorem below_alloc3 (w : World) (o o' o'' : Obj) : Below w.heap.size w (((w.alloc o).alloc o').alloc o'') := Bt (below_alloc2 w o o') (below_alloc _ o'')
theorem below_alloc4 (w : World) (o o' o'' o''' : Obj) : Below w.heap.size w ((((w.alloc o).alloc o').alloc o'').alloc o''') := Bt (below_alloc3 w o o' o'') (below_alloc _ o''')
end Go.Proofs.YtibhohpamnpkcaaGreatDoor

/- Structs in blocks of a function's own: loaded, stored, given back. -/
namespace Go.Proofs.YtibhohpamnpkcaaGreatDoor
open Go.RowKit

/-- What the program says of a struct's type: so many cells. -/
structure IsStr (t : TypeId) (n : Nat) : Prop where
  und : ∃ fs, Tryz.prog.underlying t = some (.struct fs)
  size : (Tryz.prog.info? t).map (·.size) = some n
theorem BlkAt.load {w : World} {g : Nat} {t : TypeId} {c : Array Value} (h : BlkAt w g t c) (ht : IsStr t c.size) : (loadVar t ⟨g, 0, none⟩).run Tryz.prog w = .ok (.agg c) w := by
  obtain ⟨fs, hu⟩ := ht.und
  exact run_loadVar_row w g _ _ _ _ _ h hu rfl ht.size
theorem BlkAt.frozen {w : World} {g : Nat} {t : TypeId} {c : Array Value} (h : BlkAt w g t c) (j : Nat) : w.frozen? ⟨g, j, none⟩ = false := by
  unfold BlkAt at h; simp [World.frozen?, h]
theorem BlkAt.setRow {w : World} {g : Nat} {t : TypeId} {c : Array Value} (h : BlkAt w g t c) (d : Array Value) : BlkAt (w.setRow g d) g t d := setRow_heap w g _ _ _ _ h
theorem BlkAt.setOther {w : World} {g q : Nat} {t : TypeId} {c : Array Value} (h : BlkAt w g t c) (hq : g ≠ q) (d : Array Value) : BlkAt (w.setRow q d) g t c := (setRow_other w q g d hq).trans h
theorem BlkAt.setCell {w : World} {g : Nat} {t : TypeId} {c : Array Value} (h : BlkAt w g t c) (j : Nat) (v : Value) : BlkAt (w.setCell ⟨g, j, none⟩ v) g t (c.setIfInBounds j v) := by
  unfold BlkAt at h ⊢; simp [World.setCell, Array.getElem?_modify, h]
theorem BlkAt.setCellOther {w : World} {g q : Nat} {t : TypeId} {c : Array Value} (h : BlkAt w g t c) (hq : g ≠ q) (j : Nat) (v : Value) : BlkAt (w.setCell ⟨q, j, none⟩ v) g t c := (Below.heap_setCell w ⟨q, j, none⟩ v g hq).trans h
theorem below_setR {B : Nat} {a w : World} (h : Below B a w) {g : Nat} (hg : B ≤ g) (cs : Array Value) : Below B a (w.setRow g cs) :=
  ⟨h.os, h.tape, h.output, by simpa using h.size, fun k hk => (setRow_other w g k cs (by omega)).trans (h.block k hk)⟩
theorem below_setC {B : Nat} {a w : World} (h : Below B a w) {g : Nat} (hg : B ≤ g) (j : Nat) (v : Value) : Below B a (w.setCell ⟨g, j, none⟩ v) := h.setCell hg _
section
variable {fn : Func} {p q u v x : Tmp} {tmps : Array Value} {w : World} {g g2 : Nat} {t t2 : TypeId} {c c2 : Array Value}
theorem results_1c (h : fn.results = #[.cell p t]) (hp : tmps.getD p undef = .pointer (some ⟨g, 0, none⟩)) (hg : BlkAt w g t c) (ht : IsStr t c.size) : (results fn tmps).run Tryz.prog w = .ok (.agg c) w := by
  have hp' : tmps[p]?.getD undef = .pointer (some ⟨g, 0, none⟩) := by simpa using hp
  simp [results, h, hp', asAddr, Result.andThen, hg.load ht, Sem.run_bind]
theorem results_ct (h : fn.results = #[.cell p t, .tmp u]) (hp : tmps.getD p undef = .pointer (some ⟨g, 0, none⟩)) (hg : BlkAt w g t c) (ht : IsStr t c.size) : (results fn tmps).run Tryz.prog w = .ok (.tuple #[.agg c, tmps.getD u undef]) w := by
  have hp' : tmps[p]?.getD undef = .pointer (some ⟨g, 0, none⟩) := by simpa using hp
  simp [results, h, hp', asAddr, Result.andThen, hg.load ht, Sem.run_bind]
theorem results_tc (h : fn.results = #[.tmp u, .cell p t]) (hp : tmps.getD p undef = .pointer (some ⟨g, 0, none⟩)) (hg : BlkAt w g t c) (ht : IsStr t c.size) : (results fn tmps).run Tryz.prog w = .ok (.tuple #[tmps.getD u undef, .agg c]) w := by
  have hp' : tmps[p]?.getD undef = .pointer (some ⟨g, 0, none⟩) := by simpa using hp
  simp [results, h, hp', asAddr, Result.andThen, hg.load ht, Sem.run_bind]
theorem results_cttt (h : fn.results = #[.cell p t, .tmp u, .tmp v, .tmp x]) (hp : tmps.getD p undef = .pointer (some ⟨g, 0, none⟩)) (hg : BlkAt w g t c) (ht : IsStr t c.size) : (results fn tmps).run Tryz.prog w = .ok (.tuple #[.agg c, tmps.getD u undef, tmps.getD v undef, tmps.getD x undef]) w := by
  have hp' : tmps[p]?.getD undef = .pointer (some ⟨g, 0, none⟩) := by simpa using hp
  simp [results, h, hp', asAddr, Result.andThen, hg.load ht, Sem.run_bind]
theorem results_cc (h : fn.results = #[.cell p t, .cell q t2]) (hp : tmps.getD p undef = .pointer (some ⟨g, 0, none⟩)) (hq : tmps.getD q undef = .pointer (some ⟨g2, 0, none⟩)) (hg : BlkAt w g t c) (hg2 : BlkAt w g2 t2 c2) (ht : IsStr t c.size) (ht2 : IsStr t2 c2.size) : (results fn tmps).run Tryz.prog w = .ok (.tuple #[.agg c, .agg c2]) w := by
  have hp' : tmps[p]?.getD undef = .pointer (some ⟨g, 0, none⟩) := by simpa using hp
  have hq' : tmps[q]?.getD undef = .pointer (some ⟨g2, 0, none⟩) := by simpa using hq
  simp [results, h, hp', hq', asAddr, Result.andThen, hg.load ht, hg2.load ht2, Sem.run_bind]
end
/-- A struct is stored into a block of the function's own. -/
theorem wpList_store_blk {w : World} {ops : Array Oper} {rest : List Oper} {o : Oper} {a : Act} {Q : Exit → Act → World → Prop} (hgd : o.guard = none) (t : TypeId) (x y : Operand) (ho : o.op = .store t x y) (g : Nat) (c old : Array Value) (hx : a.eval x = .pointer (some ⟨g, 0, none⟩)) (hy : a.eval y = .agg c) (ht : IsStr t c.size) (hg : BlkAt w g t old) (hc : old.size = c.size) (hall : c.all (·.oneCell') = true)
    (h : BlkAt (w.setRow g c) g t c → wpList Tryz.prog ops Q rest (a.put o.dst undef) (w.setRow g c)) : wpList Tryz.prog ops Q (o :: rest) a w :=
  wpList_store_row hgd _ x y ho g _ hx hy _ _ hg ht.size hc hall (h (hg.setRow c))
end Go.Proofs.YtibhohpamnpkcaaGreatDoor

/- The contracts of package api: Fail makes a fault in a new block. -/
namespace Go.Proofs.YtibhohpamnpkcaaGreatDoor
open Go.RowKit

theorem api_Fail (k i : Int) (w : World) : Calls Tryz.prog 34 #[.int .i64 k, .int .i64 i] w fun e w' =>
    e = .returned (.iface 89 (.pointer (some ⟨w.heap.size, 0, none⟩))) ∧ w.alloc (.cells #[.int .i64 k, .int .i64 i, .nilIface] 93) = w' := by
  go_enter Tryz.func34, Tryz.ntmps34
  go_wp2
  go_ret
  exact ⟨rfl, rfl⟩

theorem api_Fail' (k i : Int) (w : World) : Calls Tryz.prog 34 #[.int .i64 k, .int .i64 i] w fun e w' =>
    ∃ v, e = .returned v ∧ IsFault w' v k i ∧ Below w.heap.size w w' :=
  (api_Fail k i w).mono fun _ _ ⟨he, hw⟩ => ⟨_, he, ⟨_, rfl, by rw [← hw]; exact heap_alloc_new w _⟩, by rw [← hw]; exact (Below.refl _ _).alloc (Nat.le_refl _) _⟩
end Go.Proofs.YtibhohpamnpkcaaGreatDoor

/- fold.value and fold.number: the number of a text's digits. -/
namespace Go.Proofs.YtibhohpamnpkcaaGreatDoor
open Go.RowKit

/-- A digit's value; 99 where it is none. -/
def valN (n : Nat) : Nat := if 48 ≤ n ∧ n ≤ 57 then n - 48 else if 97 ≤ n ∧ n ≤ 102 then n - 87 else if 65 ≤ n ∧ n ≤ 70 then n - 55 else 99


set_option maxHeartbeats 1600000 in
theorem fold_value (n : Nat) (hn : n < 256) (w : World) : Calls Tryz.prog 216 #[.int .u8 (n : Int)] w fun e w' => e = .returned (.int .u64 (valN n : Nat)) ∧ w = w' := by
  have hc : n < 48 ∨ (48 ≤ n ∧ n ≤ 57) ∨ (57 < n ∧ n < 65) ∨ (65 ≤ n ∧ n ≤ 70) ∨ (70 < n ∧ n < 97) ∨ (97 ≤ n ∧ n ≤ 102) ∨ 102 < n := by omega
  have hv : n < 48 ∨ (57 < n ∧ n < 65) ∨ (70 < n ∧ n < 97) ∨ 102 < n → valN n = 99 := by
    intro h; unfold valN; rw [if_neg (by omega), if_neg (by omega), if_neg (by omega)]
  have hv1 : 48 ≤ n ∧ n ≤ 57 → valN n = n - 48 := by intro h; unfold valN; rw [if_pos h]
  have hv2 : 97 ≤ n ∧ n ≤ 102 → valN n = n - 87 := by intro h; unfold valN; rw [if_neg (by omega), if_pos h]
  have hv3 : 65 ≤ n ∧ n ≤ 70 → valN n = n - 55 := by intro h; unfold valN; rw [if_neg (by omega), if_neg (by omega), if_pos h]
  have HV := Lib.hid hv
  have HV1 := Lib.hid hv1
  have HV2 := Lib.hid hv2
  have HV3 := Lib.hid hv3
  clear hv hv1 hv2 hv3
  rcases hc with h | ⟨h, h'⟩ | ⟨h, h'⟩ | ⟨h, h'⟩ | ⟨h, h'⟩ | ⟨h, h'⟩ | h
  all_goals
    go_enter Tryz.func216, Tryz.ntmps216
    go_wp2
    go_ret
  · exact ⟨ret_u64 (by rw [HV.out (by omega)]; rfl), rfl⟩
  · exact ⟨ret_u64 (by rw [HV1.out (by omega)]; omega), rfl⟩
  · exact ⟨ret_u64 (by rw [HV.out (by omega)]; rfl), rfl⟩
  · exact ⟨ret_u64 (by rw [HV3.out (by omega)]; omega), rfl⟩
  · exact ⟨ret_u64 (by rw [HV.out (by omega)]; rfl), rfl⟩
  · exact ⟨ret_u64 (by rw [HV2.out (by omega)]; omega), rfl⟩
  · exact ⟨ret_u64 (by rw [HV.out (by omega)]; rfl), rfl⟩

theorem bits_Mul64 (x y : Nat) (hx : x < 18446744073709551616) (hy : y < 18446744073709551616) (w : World) :
    Calls Tryz.prog 217 #[.int .u64 (x : Int), .int .u64 (y : Int)] w fun e w' => ∃ hi lo : Nat, e = .returned (.tuple #[.int .u64 (hi : Int), .int .u64 (lo : Int)]) ∧ Hid (hi * 18446744073709551616 + lo = x * y) ∧ lo < 18446744073709551616 ∧ w = w' :=
  (Tryz.bits_Mul64 x y hx hy w).mono fun _ _ ⟨he, hw⟩ => ⟨_, _, he, Lib.hid (by have := Nat.div_add_mod (x * y) 18446744073709551616; omega), Nat.mod_lt _ (by omega), hw.symm⟩

theorem bits_Add64 (x y : Nat) (hx : x < 18446744073709551616) (hy : y < 18446744073709551616) : ∃ s c : Nat, (∀ w : World, (callFunc 218 #[.int .u64 (x : Int), .int .u64 (y : Int), .int .u64 0]).run Tryz.prog w = .ok (.value (.tuple #[.int .u64 (s : Int), .int .u64 (c : Int)])) w) ∧ Hid (c * 18446744073709551616 + s = x + y) ∧ s < 18446744073709551616 ∧ c ≤ 1 := by
  refine ⟨(x + y) % 18446744073709551616, (x + y) / 18446744073709551616, fun w => ?_, Lib.hid (by have := Nat.div_add_mod (x + y) 18446744073709551616; omega), Nat.mod_lt _ (by omega), by omega⟩
  rw [run_callFunc_extern Tryz.func218 (by kernel_rfl) (by kernel_rfl) (by kernel_rfl) (e := add64Entry) (by kernel_rfl) _ w, run_add64 x y 0 (by omega) (by omega) (by omega) (by omega)]
  simp only [Result.andThen]
  congr 5 <;> omega

/-- The number that the first k bytes give. -/
def numTo (base : Nat) (s : ByteArray) : Nat → Nat
  | 0 => 0
  | k + 1 => numTo base s k * base + valN (byteAt s k).toNat

/-- The first byte that is no digit of the base. -/
def firstBad (base : Nat) (s : ByteArray) : Option Nat := (List.range s.size).find? fun i => decide (base ≤ valN (byteAt s i).toNat)

/-- A text's number, of a base, at most another one: the number, the error's kind (0: none), its place. -/
def numRes (s : ByteArray) (base most : Nat) : Nat × Nat × Nat :=
  if s.size = 0 then (0, 10, 0) else match firstBad base s with
    | some i => (0, 11, i)
    | none => if 18446744073709551616 ≤ numTo base s s.size ∨ most < numTo base s s.size then (0, 16, 0) else (numTo base s s.size, 0, 0)

theorem firstBad_some {base : Nat} {s : ByteArray} {i : Nat} (hi : i < s.size) (h : ∀ j, j < i → valN (byteAt s j).toNat < base) (hb : base ≤ valN (byteAt s i).toNat) : firstBad base s = some i := by
  unfold firstBad
  rw [List.find?_range_eq_some]
  exact ⟨by simpa using hb, by simpa using hi, fun j hj => by simpa using h j hj⟩
theorem firstBad_none {base : Nat} {s : ByteArray} (h : ∀ j, j < s.size → valN (byteAt s j).toNat < base) : firstBad base s = none := by
  unfold firstBad
  rw [List.find?_eq_none]
  intro j hj
  simpa using h j (by simpa using hj)

theorem numTo_le (base : Nat) (s : ByteArray) (hb : 1 ≤ base) {j k : Nat} (h : j ≤ k) : numTo base s j ≤ numTo base s k := by
  induction h with
  | refl => exact Nat.le_refl _
  | step _ ih => exact Nat.le_trans ih (Nat.le_trans (Nat.le_mul_of_pos_right _ hb) (Nat.le_add_right _ _))

def NumPost (s : ByteArray) (base most : Nat) (w : World) (e : Ending) (w' : World) : Prop :=
  ∃ v, e = .returned (.tuple #[.int .u64 ((numRes s base most).1 : Int), v]) ∧ IsErr w' v (numRes s base most).2.1 (numRes s base most).2.2 ∧ Below w.heap.size w w'

theorem NumPost.bad {s : ByteArray} {base most : Nat} {w w' : World} {i : Nat} {v : Value} (hi : i < s.size) (h : ∀ j, j < i → valN (byteAt s j).toNat < base) (hb : base ≤ valN (byteAt s i).toNat)
    (hv : IsFault w' v 11 i) (hw : Below w.heap.size w w') : NumPost s base most w (.returned (.tuple #[.int .u64 0, v])) w' := by
  have e : numRes s base most = (0, 11, i) := by rw [numRes, if_neg (by omega), firstBad_some hi h hb]
  exact ⟨v, by rw [e]; rfl, .inr ⟨by rw [e]; exact (by decide : (11 : Nat) ≠ 0), _, by rw [e]; exact hv⟩, hw⟩
theorem NumPost.over {s : ByteArray} {base most : Nat} {w w' : World} {v : Value} (h0 : 0 < s.size) (h : ∀ j, j < s.size → valN (byteAt s j).toNat < base)
    (ho : 18446744073709551616 ≤ numTo base s s.size ∨ most < numTo base s s.size)
    (hv : IsFault w' v 16 0) (hw : Below w.heap.size w w') : NumPost s base most w (.returned (.tuple #[.int .u64 0, v])) w' := by
  have e : numRes s base most = (0, 16, 0) := by rw [numRes, if_neg (by omega), firstBad_none h]; exact if_pos ho
  exact ⟨v, by rw [e]; rfl, .inr ⟨by rw [e]; decide, _, by rw [e]; exact hv⟩, hw⟩
theorem NumPost.good {s : ByteArray} {base most : Nat} {w w' : World} {n : Int} (h0 : 0 < s.size) (h : ∀ j, j < s.size → valN (byteAt s j).toNat < base)
    (ho : ¬ (18446744073709551616 ≤ numTo base s s.size ∨ most < numTo base s s.size)) (hn : n = numTo base s s.size)
    (hw : Below w.heap.size w w') : NumPost s base most w (.returned (.tuple #[.int .u64 n, .nilIface])) w' := by
  have e : numRes s base most = (numTo base s s.size, 0, 0) := by rw [numRes, if_neg (by omega), firstBad_none h]; exact if_neg ho
  exact ⟨_, by rw [e, hn], .inl ⟨by rw [e], rfl⟩, hw⟩

/-- The state of the loop behind k bytes: the number as far as it fits; whether it does not. -/
def NumSt (base : Nat) (s : ByteArray) (k n : Nat) (o : Bool) : Prop := o = decide (18446744073709551616 ≤ numTo base s k) ∧ (numTo base s k < 18446744073709551616 → n = numTo base s k) ∧ ∀ j, j < k → valN (byteAt s j).toNat < base
theorem NumSt.zero (base : Nat) (s : ByteArray) : NumSt base s 0 0 false := ⟨rfl, fun _ => rfl, fun j hj => by omega⟩
theorem NumSt.step {base : Nat} {s : ByteArray} {k n hi lo sm c : Nat} {o : Bool} (hb : 1 ≤ base) (h : NumSt base s k n o) (hd : valN (byteAt s k).toNat < base)
    (h1 : hi * 18446744073709551616 + lo = n * base) (h2 : c * 18446744073709551616 + sm = lo + valN (byteAt s k).toNat) (h3 : sm < 18446744073709551616) (o' : Bool)
    (ho : o' = (o || decide (0 < hi + c))) : NumSt base s (k + 1) sm o' := by
  obtain ⟨e1, e2, e3⟩ := h
  have hle := numTo_le base s hb (Nat.le_succ k)
  refine ⟨?_, ?_, fun j hj => ?_⟩
  · rw [ho, e1]
    change numTo base s k ≤ numTo base s (k + 1) at hle
    by_cases hx : 18446744073709551616 ≤ numTo base s k
    · rw [decide_eq_true hx, decide_eq_true (Nat.le_trans hx hle)]; rfl
    · rw [decide_eq_false hx, Bool.false_or]
      have hn := e2 (by omega)
      rw [decide_eq_decide, numTo, ← hn, ← h1]
      omega
  · intro hlt
    have hn := e2 (Nat.lt_of_le_of_lt hle hlt)
    have : numTo base s (k + 1) = n * base + valN (byteAt s k).toNat := by rw [numTo, hn]
    omega
  · by_cases hjk : j = k
    · subst hjk; exact hd
    · exact e3 j (by omega)

theorem NumPost.none_ {s : ByteArray} {base most : Nat} {w w' : World} {v : Value} (h0 : s.size = 0)
    (hv : IsFault w' v 10 0) (hw : Below w.heap.size w w') : NumPost s base most w (.returned (.tuple #[.int .u64 0, v])) w' := by
  have e : numRes s base most = (0, 10, 0) := by rw [numRes, if_pos h0]
  exact ⟨v, by rw [e]; rfl, .inr ⟨by rw [e]; exact (by decide : (10 : Nat) ≠ 0), _, by rw [e]; exact hv⟩, hw⟩

set_option maxHeartbeats 1600000 in
set_option maxRecDepth 100000 in
theorem fold_number (s : ByteArray) (base most : Nat) (w : World) (hs : s.size ≤ 140737488351232) (hb : 2 ≤ base) (hb2 : base ≤ 16) (hm : most < 18446744073709551616) :
    Calls Tryz.prog 201 #[.string s, .int .u64 (base : Int), .int .u64 (most : Int)] w (NumPost s base most w) := by
  by_cases h0 : s.size = 0
  · have hne := isEmpty_yes h0
    have H0 := Lib.hid h0
    clear h0
    go_enter Tryz.func201, Tryz.ntmps201
    go_wp2_with fail
    refine (api_Fail' _ _ _).mono ?_
    rintro e w3 ⟨v, rfl, hv, hb3⟩
    go_wp2_with fail
    go_ret2
    exact NumPost.none_ H0.out hv hb3
  · have hne : s.toList.isEmpty = false := isEmpty_no (by omega)
    go_enter Tryz.func201, Tryz.ntmps201
    go_wp2_with ((with_reducible refine wpList_bytes (o := ⟨some 20, _, _, _, _, _⟩) rfl 9 74 5 _ rfl s rfl Tryz.underlying9 Tryz.underlying74 Tryz.underlying5 ?_); intro cap w1 hcap hB hb1 hsz1)
    have hszle : w.heap.size ≤ w1.heap.size := hb1.size
    clear hne hcap hsz1
    go_loop [6, 8, 22] (fun n o i => ∃ (k m : Nat) (ob : Bool), k ≤ s.size ∧ i = .int .i64 k ∧ n = .int .u64 m ∧ o = .bool ob ∧ m < 18446744073709551616 ∧ NumSt base s k m ob)
      (fun _ _ i => s.size - (intOf i).toNat)
    case atStart => exact ⟨0, 0, false, Nat.zero_le _, rfl, rfl, rfl, by omega, NumSt.zero _ _⟩
    case round =>
      obtain ⟨k, m, ob, hk, rfl, rfl, rfl, hm', hst⟩ := hrel
      have hcell : k < s.size → w1.cell? ⟨w.heap.size, k, none⟩ = some (.int .u8 ((byteAt s k).toNat : Int)) := fun h => hB.byte h
      by_cases hlt : k < s.size
      · have hby : (byteAt s k).toNat < 256 := (byteAt s k).toNat_lt
        by_cases hd : base ≤ valN (byteAt s k).toNat
        · go_wp2_with fail
          refine (fold_value _ hby _).mono ?_
          rintro e w2 ⟨rfl, rfl⟩
          go_wp2_with fail
          refine (api_Fail' _ _ _).mono ?_
          rintro e w3 ⟨v, rfl, hv, hb3⟩
          go_wp2_with fail
          go_ret2
          exact NumPost.bad hlt hst.2.2 hd hv (hb1.trans (hb3.mono hszle))
        · have hd' : valN (byteAt s k).toNat < base := by omega
          go_wp2_with fail
          refine (fold_value _ hby _).mono ?_
          rintro e w2 ⟨rfl, rfl⟩
          go_wp2_with fail
          refine (bits_Mul64 _ _ hm' (by omega) _).mono ?_
          rintro e w2 ⟨hi, lo, rfl, hmul, hlo, rfl⟩
          obtain ⟨sm, cy, hadd, hsum, hsm, hcy⟩ := bits_Add64 lo (valN (byteAt s k).toNat) hlo (by omega)
          have hhi : hi ≤ 15 := by
            have h1 := hmul.out
            have h2 : m * base ≤ 18446744073709551615 * 16 := Nat.mul_le_mul (by omega) hb2
            omega
          have hstep := fun o' ho => NumSt.step (by omega : 1 ≤ base) hst hd' hmul.out hsum.out hsm o' ho
          have HST := Lib.hid hstep
          clear hstep hst
          cases ob
          · go_wp2_with fail
            go_round
            case rel => exact ⟨k + 1, sm, decide (0 < hi + cy), by omega, by go_num, rfl, by congr 1; rw [decide_eq_decide]; omega, hsm, HST.out _ rfl⟩
            case measure => simp [intOf]; omega
          · go_wp2_with fail
            go_round
            case rel => exact ⟨k + 1, sm, true, by omega, by go_num, rfl, rfl, hsm, HST.out _ rfl⟩
            case measure => simp [intOf]; omega
      · obtain rfl : k = s.size := by omega
        have HST := Lib.hid hst
        clear hst
        cases ob
        · by_cases hmm : most < m
          · go_wp2_with fail
            refine (api_Fail' _ _ _).mono ?_
            rintro e w3 ⟨v, rfl, hv, hb3⟩
            go_wp2_with fail
            go_ret2
            refine NumPost.over (by omega) HST.out.2.2 ?_ hv (hb1.trans (hb3.mono hszle))
            by_cases hx : 18446744073709551616 ≤ numTo base s s.size
            · exact .inl hx
            · exact .inr (by rw [← HST.out.2.1 (by omega)]; exact hmm)
          · go_wp2_with fail
            go_ret2
            have hx : ¬ 18446744073709551616 ≤ numTo base s s.size := by
              have := HST.out.1
              simpa using this
            have hn := HST.out.2.1 (by omega)
            exact NumPost.good (by omega) HST.out.2.2 (by omega) (by rw [hn]) hb1
        · go_wp2_with fail
          refine (api_Fail' _ _ _).mono ?_
          rintro e w3 ⟨v, rfl, hv, hb3⟩
          go_wp2_with fail
          go_ret2
          have hx : 18446744073709551616 ≤ numTo base s s.size := by
            have := HST.out.1
            simpa using this
          exact NumPost.over (by omega) HST.out.2.2 (.inl hx) hv (hb1.trans (hb3.mono hszle))

theorem fold_Hex (s : ByteArray) (most : Nat) (w : World) (hs : s.size ≤ 140737488351232) (hm : most < 18446744073709551616) :
    Calls Tryz.prog 177 #[.string s, .int .u64 (most : Int)] w (NumPost s 16 most w) := by
  go_enter Tryz.func177, Tryz.ntmps177
  go_wp2_with fail
  refine (fold_number s 16 most _ hs (by omega) (by omega) hm).mono ?_
  rintro e w1 ⟨v, rfl, hv, hb1⟩
  go_wp2_with fail
  go_ret2
  exact ⟨v, rfl, hv, hb1⟩

theorem cast_max : (((18446744073709551615 : Nat) : Nat) : Int) = 18446744073709551615 := rfl
theorem fold_Hex_max (s : ByteArray) (w : World) (hs : s.size ≤ 140737488351232) : Calls Tryz.prog 177 #[.string s, .int .u64 18446744073709551615] w (NumPost s 16 18446744073709551615 w) := by
  have h := fold_Hex s 18446744073709551615 w hs (by omega)
  rw [cast_max] at h
  exact h
/-- What is told where the number is right. -/
theorem NumPost.right {s : ByteArray} {base most n : Nat} {w w' : World} {e : Ending} (h : NumPost s base most w e w') (hr : numRes s base most = (n, 0, 0)) : e = .returned (.tuple #[.int .u64 (n : Int), .nilIface]) ∧ Below w.heap.size w w' := by
  obtain ⟨v, rfl, hv, hb⟩ := h
  rw [hr] at hv
  rcases hv with ⟨_, rfl⟩ | ⟨h, _⟩
  · exact ⟨by rw [hr], hb⟩
  · exact absurd rfl h
end Go.Proofs.YtibhohpamnpkcaaGreatDoor
