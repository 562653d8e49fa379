/- puny.Adapt, threshold, digit. -/
import Derived.Test.YtakcfgmibijdnaaDoorPunyWritesM1
import Derived.Test.YtakcfgmibijdnaaDoorShelf
import Derived.Lib.Builder
import Derived.Lib.AppendStr
import Derived.Lib.UnsafeStr
import Derived.Laws.Externs
import Derived.Maps.AppendAt
import Derived.Test.YtakcfgmibijdnaaDoorPunyWritesM3

namespace Go.Proofs.YtakcfgmibijdnaaDoor
open Go.RowKit

theorem adaptZ_neg {delta count : Int} {first : Bool} (h : delta < 0 ∨ count < 1) : adaptZ delta count first = 0 := by unfold adaptZ; rw [if_pos h]
theorem adaptZ_nat (d c : Nat) (first : Bool) (h : 1 ≤ c) : adaptZ (d : Int) (c : Int) first = (adaptN d c first : Int) := by
  unfold adaptZ; rw [if_neg (by omega)]; simp
theorem wrap64_inA (x : Int) (h1 : -9223372036854775808 ≤ x) (h2 : x ≤ 9223372036854775807) : wrap64 x = x := by unfold wrap64; omega
/-- What the loop begins with, as the walk reckons it. -/
theorem adapt0_int (d c : Nat) (first : Bool) (h : d ≤ 1099511627776) : (if first then wrap64 ((d : Int) / 700 + (d : Int) / 700 / (c : Int)) else wrap64 ((d : Int) / 2 + (d : Int) / 2 / (c : Int))) = ((adapt0 d c first : Nat) : Int) := by
  have h1 : ∀ x : Nat, x / c ≤ x := fun x => Nat.div_le_self _ _
  have e : ∀ x : Nat, ((x / c : Nat) : Int) = (x : Int) / (c : Int) := fun x => by simp
  cases first
  · have := h1 (d / 2)
    have e2 := e (d / 2)
    have e3 : ((d / 2 : Nat) : Int) = (d : Int) / 2 := by simp
    rw [e3] at e2
    simp only [adapt0, Bool.false_eq_true, if_false]
    have e4 : (0 : Int) ≤ (d : Int) / 2 / (c : Int) := by rw [← e2]; exact Int.natCast_nonneg _
    have e5 : (d : Int) / 2 / (c : Int) ≤ (d : Int) / 2 := by rw [← e2, ← e3]; exact Int.ofNat_le.2 (h1 _)
    generalize (d : Int) / 2 / (c : Int) = z at *
    rw [wrap64_inA _ (by omega) (by omega)]
    rw [Int.natCast_add, e2, e3]
  · have := h1 (d / 700)
    have e2 := e (d / 700)
    have e3 : ((d / 700 : Nat) : Int) = (d : Int) / 700 := by simp
    rw [e3] at e2
    simp only [adapt0, if_true]
    have e4 : (0 : Int) ≤ (d : Int) / 700 / (c : Int) := by rw [← e2]; exact Int.natCast_nonneg _
    have e5 : (d : Int) / 700 / (c : Int) ≤ (d : Int) / 700 := by rw [← e2, ← e3]; exact Int.ofNat_le.2 (h1 _)
    generalize (d : Int) / 700 / (c : Int) = z at *
    rw [wrap64_inA _ (by omega) (by omega)]
    rw [Int.natCast_add, e2, e3]
set_option maxHeartbeats 1600000 in
set_option maxRecDepth 100000 in
theorem puny_Adapt (delta count : Int) (first : Bool) (w : World) (h1 : delta ≤ 1099511627776) (h2 : count ≤ 1099511627776) :
    Calls Tryd.prog 66 #[.int .i64 delta, .int .i64 count, .bool first] w fun e w' => e = .returned (.int .i64 (adaptZ delta count first)) ∧ w = w' := by
  by_cases hd : delta < 0
  · have HV := Lib.hid (adaptZ_neg (first := first) (count := count) (.inl hd))
    go_enter Tryd.func66, Tryd.ntmps66
    go_wp2_with fail
    go_ret
    exact ⟨ret_i64 HV.out.symm, rfl⟩
  by_cases hc : count < 1
  · have HV := Lib.hid (adaptZ_neg (first := first) (delta := delta) (.inr hc))
    go_enter Tryd.func66, Tryd.ntmps66
    go_wp2_with fail
    go_ret
    exact ⟨ret_i64 HV.out.symm, rfl⟩
  obtain ⟨d, rfl⟩ : ∃ d : Nat, delta = d := ⟨delta.toNat, by omega⟩
  obtain ⟨c, rfl⟩ : ∃ c : Nat, count = c := ⟨count.toNat, by omega⟩
  have hc1 : 1 ≤ c := by omega
  rw [adaptZ_nat d c first hc1]
  have hz := adapt0_le d c first
  have hst := adapt0_int d c first (by omega)
  have hR : adaptL (adapt0 d c first) (adapt0 d c first) 0 = adaptN d c first := rfl
  have HR := Lib.hid hR
  clear hR hd hc
  generalize adaptN d c first = R at *
  generalize adapt0 d c first = D at *
  cases first
  all_goals
    simp only [Bool.false_eq_true, if_false, if_true, reduceIte] at hst
    have hs := congrArg (Value.int .i64) hst
    have HST := Lib.hid hs
    clear hst hs
    go_enter Tryd.func66, Tryd.ntmps66
    go_wp2_with fail
    go_loop [0, 7] (fun x y => ∃ f e k : Nat, x = .int .i64 e ∧ y = .int .i64 k ∧ e ≤ f ∧ k + e ≤ D ∧ adaptL f e k = R) (fun x _ => (intOf x).toNat)
    case atStart => exact ⟨D, D, 0, HST.out, rfl, Nat.le_refl _, by omega, HR.out⟩
    case round =>
      obtain ⟨f, e, k, rfl, rfl, hef, hke, hg⟩ := hrel
      by_cases h5 : 455 < e
      · obtain ⟨f', rfl⟩ : ∃ f', f = f' + 1 := ⟨f - 1, by omega⟩
        rw [adaptL_go h5] at hg
        have HG := Lib.hid hg
        have h5I : (e : Int) > 455 := by omega
        clear hg
        go_wp2_with fail
        go_round
        case rel => exact ⟨f', e / 35, k + 36, by simp, by simp, by omega, by omega, HG.out⟩
        case measure => simp [intOf]; omega
      · rw [adaptL_end h5] at hg
        have h5I : ¬ (e : Int) > 455 := by omega
        have hq : 36 * e / (e + 38) ≤ 36 * e := Nat.div_le_self _ _
        have hqc : ((36 * e / (e + 38) : Nat) : Int) = 36 * (e : Int) / ((e : Int) + 38) := by simp
        have HG := Lib.hid hg
        generalize 36 * e / (e + 38) = q at *
        have HQ := Lib.hid hqc
        clear hg hqc
        go_wp2_with fail
        rw [← HQ.out]
        go_wp2_with fail
        go_ret
        exact ⟨ret_i64 (by rw [wrap64_inA _ (by omega) (by omega), ← HG.out]; simp), rfl⟩
end Go.Proofs.YtakcfgmibijdnaaDoor

/- strings.Builder: copyCheck, WriteByte, WriteString (over a cut whose copyCheck holds a branch that no builder of the call's own reaches), String. -/
namespace Go.Proofs.YtakcfgmibijdnaaDoor
open Go.RowKit

/-- A builder in block b, whose bytes lie in a row of the call's own, from B on. -/
def Bld (w : World) (B b : Nat) (l : List UInt8) : Prop :=
  b < B ∧ ∃ p v, (p = .pointer none ∨ p = .pointer (some ⟨b, 0, none⟩)) ∧ w.heap[b]? = some (.cells #[p, v] 120 (0, 0)) ∧ w.ownsRow B 5 1 v l.length (Lib.byteCells l)
/-- All blocks below B, but b, stand as they stood. -/
structure ButB (B b : Nat) (w w' : World) : Prop where
  os : w'.os = w.os
  tape : w'.tape = w.tape
  output : w'.output = w.output
  size : w.heap.size ≤ w'.heap.size
  block : ∀ k, k < B → k ≠ b → w'.heap[k]? = w.heap[k]?
theorem ButB.refl (B b : Nat) (w : World) : ButB B b w w := ⟨rfl, rfl, rfl, Nat.le_refl _, fun _ _ _ => rfl⟩
theorem ButB.trans {B b : Nat} {w w1 w2 : World} (h : ButB B b w w1) (k : ButB B b w1 w2) : ButB B b w w2 :=
  ⟨k.os.trans h.os, k.tape.trans h.tape, k.output.trans h.output, Nat.le_trans h.size k.size, fun i hi hn => (k.block i hi hn).trans (h.block i hi hn)⟩
theorem ButB.of_below {B b : Nat} {w w' : World} (h : Below B w w') : ButB B b w w' := ⟨h.os, h.tape, h.output, h.size, fun k hk _ => h.block k hk⟩
theorem ButB.setCell {B b : Nat} {w w' : World} (h : ButB B b w w') (j : Nat) (u : Value) : ButB B b w (w'.setCell ⟨b, j, none⟩ u) :=
  ⟨h.os, h.tape, h.output, by simpa [World.setCell] using h.size, fun k hk hn => (Below.heap_setCell w' ⟨b, j, none⟩ u k (fun e => hn e)).trans (h.block k hk hn)⟩
theorem ButB.below {B b B0 : Nat} {w w' : World} (h : ButB B b w w') (h1 : B0 ≤ b) (h2 : B0 ≤ B) : Below B0 w w' := ⟨h.os, h.tape, h.output, h.size, fun k hk => h.block k (by omega) (by omega)⟩
theorem BytesAt.but {w w' : World} {g B b : Nat} {l : List UInt8} (h : BytesAt w g l) (hb : ButB B b w w') (h1 : g < B) (h2 : g ≠ b) : BytesAt w' g l := by
  obtain ⟨e, rest, lo, hi, hlo, hh⟩ := h
  exact ⟨e, rest, lo, hi, hlo, (hb.block g h1 h2).trans hh⟩

theorem bld_size : (Tryd.prog.info? 120).map (·.size) = some 2 := by kernel_rfl
theorem bld_lies : liesAt Tryd.prog Tryd.prog.depth 120 (2 / Tryd.prog.cellsOf 120) 0 120 1 = true := by kernel_rfl
theorem bld_byte : (Tryd.prog.info? 5).map (fun i => (i.zero, i.size, i.bytes)) = some (some (.int .u8 0), 1, 1) := by kernel_rfl

theorem Bld.new {w' : World} {B b : Nat} {u : Obj} (hu : u = .cells #[.pointer none, .slice none 0 0] 120) (h : w'.heap[b]? = some u) (hb : b < B) : Bld w' B b [] :=
  ⟨hb, _, _, .inl rfl, by rw [h, hu], World.ownsRow_nil _ _ _ _⟩
theorem Bld.below {w w' : World} {B b : Nat} {l : List UInt8} (h : Bld w B b l) (hb : Below w.heap.size w w') : Bld w' B b l := by
  obtain ⟨h1, p, v, h2, h3, h4⟩ := h
  exact ⟨h1, p, v, h2, (hb.block b (lt_of_block h3)).trans h3, ownsRow_below h4 hb⟩
theorem Bld.lt {w : World} {B b : Nat} {l : List UInt8} (h : Bld w B b l) : b < w.heap.size := by
  obtain ⟨_, p, v, _, h3, _⟩ := h
  exact lt_of_block h3

set_option maxHeartbeats 1000000 in
set_option maxRecDepth 100000 in
theorem bld_check_used (b : Nat) (w : World) (h0 : w.cell? ⟨b, 0, none⟩ = some (.pointer (some ⟨b, 0, none⟩))) :
    Calls Tryd.prog 103 #[.pointer (some ⟨b, 0, none⟩)] w fun e w' => e = .returned (.tuple #[]) ∧ w' = w := by
  obtain ⟨j, hj, _⟩ := Option.map_eq_some_iff.1 bld_size
  have hnp := Lib.run_neq_ptr_same (P := Tryd.prog) w ⟨b, 0, none⟩ Tryd.underlying118 hj
  go_enter Tryd.func103, Tryd.ntmps103
  go_wp2
  go_end0
  exact ⟨rfl, rfl⟩
set_option maxHeartbeats 1000000 in
set_option maxRecDepth 100000 in
theorem bld_check_fresh (b : Nat) (w : World) (h0 : w.cell? ⟨b, 0, none⟩ = some (.pointer none)) (hsh : w.shape? b = some (120, 2)) (hfz : w.frozen? ⟨b, 0, none⟩ = false) :
    Calls Tryd.prog 103 #[.pointer (some ⟨b, 0, none⟩)] w fun e w' => e = .returned (.tuple #[]) ∧ w' = w.setCell ⟨b, 0, none⟩ (.pointer (some ⟨b, 0, none⟩)) := by
  obtain ⟨j, hj, hjs⟩ := Option.map_eq_some_iff.1 bld_size
  have k1 := Lib.run_to_unsafe (P := Tryd.prog) w ⟨b, 0, none⟩ Tryd.underlying118 Tryd.underlying153 hj (by rw [hjs]; decide) hsh (Nat.zero_lt_succ 1)
  have k2 : (callFunc 138 #[.pointer (some ⟨b, 0, none⟩)]).run Tryd.prog w = .ok (.value (.pointer (some ⟨b, 0, none⟩))) w := by
    rw [run_callFunc_extern Tryd.func138 (by kernel_rfl) (by kernel_rfl) (by kernel_rfl) (e := Extern.AbiNoEscape.same) (by kernel_rfl)]
    rw [Lib.run_noEscape]
    rfl
  have k3 := Lib.run_from_unsafe (P := Tryd.prog) w ⟨b, 0, none⟩ Tryd.underlying153 Tryd.underlying118 hj hsh bld_lies
  go_enter Tryd.func103, Tryd.ntmps103
  go_wp2
  go_end0
  exact ⟨rfl, rfl⟩
theorem bld_check (B b : Nat) (l : List UInt8) (w : World) (h : Bld w B b l) :
    Calls Tryd.prog 103 #[.pointer (some ⟨b, 0, none⟩)] w fun e w' => e = .returned (.tuple #[]) ∧ ButB B b w w' ∧ ∃ v, w'.heap[b]? = some (.cells #[.pointer (some ⟨b, 0, none⟩), v] 120 (0, 0)) ∧ w'.ownsRow B 5 1 v l.length (Lib.byteCells l) := by
  obtain ⟨h1, p, v, h2, h3, h4⟩ := h
  have c0 : w.cell? ⟨b, 0, none⟩ = some p := by rw [cell_of_row w b 0 _ _ _ h3]; rfl
  rcases h2 with rfl | rfl
  · refine (bld_check_fresh b w c0 (by simp [World.shape?, h3]) (Lib.frozen_of_heap h3 0)).mono ?_
    rintro e w' ⟨rfl, rfl⟩
    refine ⟨rfl, (ButB.refl B b w).setCell 0 _, v, by simp [World.setCell, Array.getElem?_modify, h3], ?_⟩
    refine h4.kept (row := some b) ⟨rfl, rfl, rfl, by simp [World.setCell], fun k _ hk => Below.heap_setCell _ _ _ _ (fun e => hk (by simp [e]))⟩ (.inr fun e => ?_)
    have := (h4.lt b e).1
    omega
  · refine (bld_check_used b w c0).mono ?_
    rintro e w' ⟨rfl, rfl⟩
    exact ⟨rfl, ButB.refl _ _ _, v, h3, h4⟩
theorem bld_put {w : World} {B b : Nat} {p v : Value} {n : Nat} {xs : List Value} {l : List UInt8} (hb : b < B) (hp : p = .pointer (some ⟨b, 0, none⟩)) {u : Value} (h3 : w.heap[b]? = some (.cells #[p, u] 120 (0, 0))) (h4 : w.ownsRow B 5 1 v n xs) (hn : n = l.length) (hx : xs = Lib.byteCells l) :
    Bld (w.setCell ⟨b, 1, none⟩ v) B b l := by
  subst hn hx
  refine ⟨hb, p, v, .inr hp, by simp [World.setCell, Array.getElem?_modify, h3], ?_⟩
  refine h4.kept (row := some b) ⟨rfl, rfl, rfl, by simp [World.setCell], fun k _ hk => Below.heap_setCell _ _ _ _ (fun e => hk (by simp [e]))⟩ (.inr fun e => ?_)
  have := (h4.lt b e).1
  omega

set_option maxHeartbeats 2000000 in
set_option maxRecDepth 100000 in
theorem bld_WriteByte (B b : Nat) (l : List UInt8) (c : UInt8) (w : World) (h : Bld w B b l) (hlen : l.length ≤ 1073741824) (hBw : B ≤ w.heap.size) :
    Calls Tryd.prog 60 #[.pointer (some ⟨b, 0, none⟩), .int .u8 (c.toNat : Int)] w fun e w' => e = .returned .nilIface ∧ Bld w' B b (l ++ [c]) ∧ ButB B b w w' := by
  obtain ⟨i0, hi, hz0, hz1, hz2⟩ := info_parts bld_byte
  have hbB := h.1
  go_enter Tryd.func60, Tryd.ntmps60
  go_wp2_with fail
  refine (bld_check B b l _ h).mono ?_
  rintro e w1 ⟨rfl, hb1, v, hbk, hown⟩
  have c0 : w1.cell? ⟨b, 0, none⟩ = some (.pointer (some ⟨b, 0, none⟩)) := by rw [Lib.cell_of_heap hbk]; rfl
  have c1 : w1.cell? ⟨b, 1, none⟩ = some v := by rw [Lib.cell_of_heap hbk]; rfl
  have hsz1 := hb1.size
  go_wp2_with (at_builtin; refine wpList_append_own _ rfl _ _ 76 rfl B 5 i0 (.int .u8 0) 1 1 Tryd.underlying76 hi hz0 hz1 hz2 rfl (by decide) _ _ _ rfl (hown.alloc _) ⟨w1.heap.size, 0, none⟩ 1 1 [.int .u8 (c.toNat : Int)] rfl rfl ?c1 ?c2 ?c3 ?c4 ?c5 ?_)
  case c1 =>
    intro j u hj
    match j, hj with
    | 0, hj => simp at hj; subst hj; simp [Addr.add]
  case c2 => intro u hu; simp at hu; subst hu; rfl
  case c3 => unfold maxLen; omega
  case c4 => omega
  case c5 => simp; omega
  intro v' w2 hown' hgrow _
  have hlt : b < w1.heap.size := lt_of_block hbk
  have hne : v.ownBlock ≠ some b := fun e => by have := (hown.lt b e).1; omega
  have hb2 : w2.heap[b]? = some (.cells #[.pointer (some ⟨b, 0, none⟩), v] 120 (0, 0)) := by
    rw [hgrow.block b (by simp; omega) (fun e => hne e.symm), Lib.alloc_old w1 _ b hlt]
    exact hbk
  have d0 : w2.cell? ⟨b, 0, none⟩ = some (.pointer (some ⟨b, 0, none⟩)) := by rw [Lib.cell_of_heap hb2]; rfl
  have d1 : w2.cell? ⟨b, 1, none⟩ = some v := by rw [Lib.cell_of_heap hb2]; rfl
  have f1 : w2.frozen? ⟨b, 1, none⟩ = false := Lib.frozen_of_heap hb2 1
  obtain ⟨g, cap, rfl⟩ : ∃ g cap, v' = .slice (some ⟨g, 0, none⟩) (l.length + 1) cap := by
    rcases hown'.2 with ⟨_, h0⟩ | ⟨g, cap, cur, hv, _⟩
    · omega
    · exact ⟨g, cap, hv⟩
  have hb12 : Below B w1 w2 := ((Below.refl B w1).alloc (by omega) _).grown hgrow (by simp; omega) (fun k hk => (hown.lt k hk).1)
  have hbe := ((hb1.trans (ButB.of_below hb12)).setCell 1 (.slice (some ⟨g, 0, none⟩) (l.length + 1) cap))
  have hput := bld_put (l := l ++ [c]) hbB rfl hb2 hown' (by simp) (by unfold Lib.byteCells; simp)
  clear hb12 hown' hown hgrow hb1
  go_wp2
  go_ret
  exact ⟨rfl, hput, hbe⟩

set_option maxHeartbeats 2000000 in
set_option maxRecDepth 100000 in
theorem bld_WriteString (B b : Nat) (l : List UInt8) (s : ByteArray) (w : World) (h : Bld w B b l) (hlen : l.length + s.size ≤ 1073741824) (hBw : B ≤ w.heap.size) :
    Calls Tryd.prog 131 #[.pointer (some ⟨b, 0, none⟩), .string s] w fun e w' => e = .returned (.tuple #[.int .i64 s.size, .nilIface]) ∧ Bld w' B b (l ++ s.data.toList) ∧ ButB B b w w' := by
  obtain ⟨i0, hi, hz0, hz1, hz2⟩ := info_parts bld_byte
  have hbB := h.1
  go_enter Tryd.func131, Tryd.ntmps131
  go_wp2_with fail
  refine (bld_check B b l _ h).mono ?_
  rintro e w1 ⟨rfl, hb1, v, hbk, hown⟩
  have c0 : w1.cell? ⟨b, 0, none⟩ = some (.pointer (some ⟨b, 0, none⟩)) := by rw [Lib.cell_of_heap hbk]; rfl
  have c1 : w1.cell? ⟨b, 1, none⟩ = some v := by rw [Lib.cell_of_heap hbk]; rfl
  have hsz1 := hb1.size
  go_wp2_with (at_builtin; refine Lib.wpList_append_own_string _ rfl _ _ 76 9 rfl B 5 i0 Tryd.underlying76 Tryd.underlying9 hi hz0 hz1 hz2 _ _ _ rfl hown s rfl ?c3 ?c4 ?c5 ?_)
  case c3 => unfold maxLen; omega
  case c4 => omega
  case c5 => omega
  intro v' w2 hown' hgrow _
  have hlt : b < w1.heap.size := lt_of_block hbk
  have hne : v.ownBlock ≠ some b := fun e => by have := (hown.lt b e).1; omega
  have hb2 : w2.heap[b]? = some (.cells #[.pointer (some ⟨b, 0, none⟩), v] 120 (0, 0)) := by
    rw [hgrow.block b hlt (fun e => hne e.symm)]
    exact hbk
  have d0 : w2.cell? ⟨b, 0, none⟩ = some (.pointer (some ⟨b, 0, none⟩)) := by rw [Lib.cell_of_heap hb2]; rfl
  have d1 : w2.cell? ⟨b, 1, none⟩ = some v := by rw [Lib.cell_of_heap hb2]; rfl
  have f1 : w2.frozen? ⟨b, 1, none⟩ = false := Lib.frozen_of_heap hb2 1
  obtain ⟨ao, n', cap, rfl⟩ : ∃ ao n' cap, v' = .slice ao n' cap := by
    rcases hown'.2 with ⟨hv, _⟩ | ⟨g, cap, cur, hv, _⟩
    · exact ⟨_, _, _, hv⟩
    · exact ⟨_, _, _, hv⟩
  have hb12 : Below B w1 w2 := (Below.refl B w1).grown hgrow (by omega) (fun k hk => (hown.lt k hk).1)
  have hbe := ((hb1.trans (ButB.of_below hb12)).setCell 1 (.slice ao n' cap))
  have hput := bld_put (l := l ++ s.data.toList) hbB rfl hb2 hown' (by simp [Lib.strCells_length]) (by unfold Lib.byteCells Lib.strCells; simp)
  clear hb12 hown' hown hgrow hb1
  go_wp2
  go_ret2
  exact ⟨rfl, hput, hbe⟩

theorem bld_String (B b : Nat) (l : List UInt8) (w : World) (h : Bld w B b l) (hBw : B ≤ w.heap.size) :
    Calls Tryd.prog 67 #[.pointer (some ⟨b, 0, none⟩)] w fun e w' => e = .returned (.string ⟨l.toArray⟩) ∧ Below b w w' := by
  obtain ⟨h1, p, v, h2, h3, h4⟩ := h
  have hne : v.ownBlock ≠ some b := fun e => by have := (h4.lt b e).1; omega
  have hw : w.ownsRow b 5 1 v (Lib.byteCells l).length (Lib.byteCells l) := by rw [Lib.byteCells_length]; exact ownsRow_base h4 (Nat.le_of_lt h1)
  have hi : Lib.IsBuilder 120 5 b b (Lib.byteCells l) w := by
    rcases h2 with rfl | rfl
    · exact .inl ⟨Nat.le_refl _, v, h3, hw, hne⟩
    · exact .inr ⟨Nat.le_refl _, v, h3, hw, hne⟩
  exact Tryd.Builder_String_any b b l w hi (by omega)
end Go.Proofs.YtakcfgmibijdnaaDoor

/- strings.Builder beside a row of the call's own that is kept: WriteByte, Len, String. -/
namespace Go.Proofs.YtakcfgmibijdnaaDoor
open Go.RowKit

/-- A builder in block b, whose bytes lie in a row of the call's own, from B on, that isn't block G. -/
def BldG (w : World) (B b G : Nat) (l : List UInt8) : Prop :=
  b < B ∧ G ≠ b ∧ G < w.heap.size ∧ ∃ p v, (p = .pointer none ∨ p = .pointer (some ⟨b, 0, none⟩)) ∧ w.heap[b]? = some (.cells #[p, v] 120 (0, 0)) ∧ w.ownsRow B 5 1 v l.length (Lib.byteCells l) ∧ v.ownBlock ≠ some G
def ButG (B b G : Nat) (w w' : World) : Prop := ButB B b w w' ∧ w'.heap[G]? = w.heap[G]?
theorem ButG.refl (B b G : Nat) (w : World) : ButG B b G w w := ⟨ButB.refl _ _ _, rfl⟩
theorem ButG.trans {B b G : Nat} {w w1 w2 : World} (h : ButG B b G w w1) (k : ButG B b G w1 w2) : ButG B b G w w2 := ⟨h.1.trans k.1, k.2.trans h.2⟩
theorem Bld.guard {w w' : World} {B b G : Nat} {l : List UInt8} (h : Bld w B b l) (hb : Below w.heap.size w w') (h1 : w.heap.size ≤ G) (h2 : G < w'.heap.size) : BldG w' B b G l := by
  have hlt := h.lt
  obtain ⟨h0, p, v, hp, h3, h4⟩ := h
  refine ⟨h0, by omega, h2, p, v, hp, (hb.block b hlt).trans h3, ownsRow_below h4 hb, fun e => ?_⟩
  have := (h4.lt G e).2
  omega
theorem BldG.bld {w : World} {B b G : Nat} {l : List UInt8} (h : BldG w B b G l) : Bld w B b l := by
  obtain ⟨h0, _, _, p, v, hp, h3, h4, _⟩ := h
  exact ⟨h0, p, v, hp, h3, h4⟩
theorem BldG.grown {w w' : World} {B b G : Nat} {l : List UInt8} (h : BldG w B b G l) (hg : w.grownBy w' (some G)) : BldG w' B b G l := by
  obtain ⟨h0, h1, h2, p, v, hp, h3, h4, h5⟩ := h
  exact ⟨h0, h1, Nat.lt_of_lt_of_le h2 hg.size, p, v, hp, (hg.block b (lt_of_block h3) (fun e => h1 (by injection e with e; exact e.symm))).trans h3, h4.kept hg (.inr h5), h5⟩
theorem BldG.below {w w' : World} {B b G : Nat} {l : List UInt8} (h : BldG w B b G l) (hb : Below w.heap.size w w') : BldG w' B b G l := h.grown (below_grownBy hb _)
set_option maxHeartbeats 1000000 in
theorem bldG_check (B b G : Nat) (l : List UInt8) (w : World) (h : BldG w B b G l) :
    Calls Tryd.prog 103 #[.pointer (some ⟨b, 0, none⟩)] w fun e w' => e = .returned (.tuple #[]) ∧ ButG B b G w w' ∧ ∃ v, w'.heap[b]? = some (.cells #[.pointer (some ⟨b, 0, none⟩), v] 120 (0, 0)) ∧ w'.ownsRow B 5 1 v l.length (Lib.byteCells l) ∧ v.ownBlock ≠ some G := by
  obtain ⟨h1, hG, _, p, v, h2, h3, h4, h5⟩ := h
  have c0 : w.cell? ⟨b, 0, none⟩ = some p := by rw [cell_of_row w b 0 _ _ _ h3]; rfl
  rcases h2 with rfl | rfl
  · refine (bld_check_fresh b w c0 (by simp [World.shape?, h3]) (Lib.frozen_of_heap h3 0)).mono ?_
    rintro e w' ⟨rfl, rfl⟩
    refine ⟨rfl, ⟨(ButB.refl B b w).setCell 0 _, Below.heap_setCell _ _ _ _ hG⟩, v, by simp [World.setCell, Array.getElem?_modify, h3], ?_, h5⟩
    refine h4.kept (row := some b) ⟨rfl, rfl, rfl, by simp [World.setCell], fun k _ hk => Below.heap_setCell _ _ _ _ (fun e => hk (by simp [e]))⟩ (.inr fun e => ?_)
    have := (h4.lt b e).1
    omega
  · refine (bld_check_used b w c0).mono ?_
    rintro e w' ⟨rfl, rfl⟩
    exact ⟨rfl, ButG.refl _ _ _ _, v, h3, h4, h5⟩
theorem bldG_put {w : World} {B b G : Nat} {p v : Value} {n : Nat} {xs : List Value} {l : List UInt8} (hb : b < B) (hG : G ≠ b) (hGw : G < w.heap.size) (hp : p = .pointer (some ⟨b, 0, none⟩)) {u : Value} (h3 : w.heap[b]? = some (.cells #[p, u] 120 (0, 0))) (h4 : w.ownsRow B 5 1 v n xs) (hn : n = l.length) (hx : xs = Lib.byteCells l) (h5 : v.ownBlock ≠ some G) :
    BldG (w.setCell ⟨b, 1, none⟩ v) B b G l := by
  obtain ⟨_, p', v', hp', k3, k4⟩ := bld_put hb hp h3 h4 hn hx
  have e : (w.setCell ⟨b, 1, none⟩ v).heap[b]? = some (.cells #[p, v] 120 (0, 0)) := by simp [World.setCell, Array.getElem?_modify, h3]
  rw [e] at k3
  injection k3 with k3
  injection k3 with k3
  injection k3 with k3
  injection k3 with e1 k3
  injection k3 with e2 _
  subst e1 e2
  exact ⟨hb, hG, by simpa [World.setCell] using hGw, p, v, hp', e, k4, h5⟩
set_option maxHeartbeats 2000000 in
set_option maxRecDepth 100000 in
theorem bldG_WriteByte (B b G : Nat) (l : List UInt8) (c : UInt8) (w : World) (h : BldG w B b G l) (hlen : l.length ≤ 1073741824) (hBw : B ≤ w.heap.size) :
    Calls Tryd.prog 60 #[.pointer (some ⟨b, 0, none⟩), .int .u8 (c.toNat : Int)] w fun e w' => e = .returned .nilIface ∧ BldG w' B b G (l ++ [c]) ∧ ButG B b G w w' := by
  obtain ⟨i0, hi, hz0, hz1, hz2⟩ := info_parts bld_byte
  have hbB := h.1
  have hG := h.2.1
  have hGw := h.2.2.1
  go_enter Tryd.func60, Tryd.ntmps60
  go_wp2_with fail
  refine (bldG_check B b G l _ h).mono ?_
  rintro e w1 ⟨rfl, hb1, v, hbk, hown, hvG⟩
  have c0 : w1.cell? ⟨b, 0, none⟩ = some (.pointer (some ⟨b, 0, none⟩)) := by rw [Lib.cell_of_heap hbk]; rfl
  have c1 : w1.cell? ⟨b, 1, none⟩ = some v := by rw [Lib.cell_of_heap hbk]; rfl
  have hsz1 := hb1.1.size
  go_wp2_with (at_builtin; refine wpList_append_own_at _ rfl _ _ 76 rfl B 5 i0 (.int .u8 0) 1 1 Tryd.underlying76 hi hz0 hz1 hz2 rfl (by decide) _ _ _ rfl (hown.alloc _) ⟨w1.heap.size, 0, none⟩ 1 1 [.int .u8 (c.toNat : Int)] rfl rfl ?c1 ?c2 ?c3 ?c4 ?c5 ?_)
  case c1 =>
    intro j u hj
    match j, hj with
    | 0, hj => simp at hj; subst hj; simp [Addr.add]
  case c2 => intro u hu; simp at hu; subst hu; rfl
  case c3 => unfold maxLen; omega
  case c4 => omega
  case c5 => simp; omega
  intro v' w2 hown' hgrow _ hat
  have hlt : b < w1.heap.size := lt_of_block hbk
  have hne : v.ownBlock ≠ some b := fun e => by have := (hown.lt b e).1; omega
  have hv' : v'.ownBlock ≠ some G := fun e => by
    rcases hat with hat | hat
    · exact hvG (hat ▸ e)
    · rw [hat] at e; injection e with e; first | omega | (simp at e; omega)
  have hG2 : w2.heap[G]? = w1.heap[G]? := by
    rw [hgrow.block G (by simp; omega) (fun e => hvG e.symm), Lib.alloc_old w1 _ G (by omega)]
  have hb2 : w2.heap[b]? = some (.cells #[.pointer (some ⟨b, 0, none⟩), v] 120 (0, 0)) := by
    rw [hgrow.block b (by simp; omega) (fun e => hne e.symm), Lib.alloc_old w1 _ b hlt]
    exact hbk
  have hs2 := hgrow.size
  have d0 : w2.cell? ⟨b, 0, none⟩ = some (.pointer (some ⟨b, 0, none⟩)) := by rw [Lib.cell_of_heap hb2]; rfl
  have d1 : w2.cell? ⟨b, 1, none⟩ = some v := by rw [Lib.cell_of_heap hb2]; rfl
  have f1 : w2.frozen? ⟨b, 1, none⟩ = false := Lib.frozen_of_heap hb2 1
  obtain ⟨g, cap, rfl⟩ : ∃ g cap, v' = .slice (some ⟨g, 0, none⟩) (l.length + 1) cap := by
    rcases hown'.2 with ⟨_, h0⟩ | ⟨g, cap, cur, hv, _⟩
    · omega
    · exact ⟨g, cap, hv⟩
  have hb12 : Below B w1 w2 := ((Below.refl B w1).alloc (by omega) _).grown hgrow (by simp; omega) (fun k hk => (hown.lt k hk).1)
  have hbe := ((hb1.1.trans (ButB.of_below hb12)).setCell 1 (.slice (some ⟨g, 0, none⟩) (l.length + 1) cap))
  have hgE : (w2.setCell ⟨b, 1, none⟩ (.slice (some ⟨g, 0, none⟩) (l.length + 1) cap)).heap[G]? = w.heap[G]? := (Below.heap_setCell _ _ _ _ hG).trans (hG2.trans hb1.2)
  have hput := bldG_put (l := l ++ [c]) hbB hG (by simp at hs2; omega) rfl hb2 hown' (by simp) (by unfold Lib.byteCells; simp) hv'
  clear hb12 hown' hown hgrow hb1 hG2 hv' hvG hs2 hat
  go_wp2
  go_ret
  exact ⟨rfl, hput, hbe, hgE⟩
set_option maxHeartbeats 1000000 in
theorem bld_Len (B b : Nat) (l : List UInt8) (w : World) (h : Bld w B b l) :
    Calls Tryd.prog 61 #[.pointer (some ⟨b, 0, none⟩)] w fun e w' => e = .returned (.int .i64 (l.length : Int)) ∧ w' = w := by
  obtain ⟨_, p, v, _, h3, h4⟩ := h
  have c1 : w.cell? ⟨b, 1, none⟩ = some v := by rw [Lib.cell_of_heap h3]; rfl
  obtain ⟨a, c, rfl⟩ : ∃ a c, v = .slice a l.length c := by
    rcases h4.2 with ⟨e0, e1⟩ | ⟨g, cap, cur, hv, _⟩
    · exact ⟨none, 0, by rw [e0, e1]⟩
    · exact ⟨_, _, hv⟩
  clear h3 h4
  go_enter Tryd.func61, Tryd.ntmps61
  go_wp2_with fail
  go_ret
  exact ⟨rfl, rfl⟩
end Go.Proofs.YtakcfgmibijdnaaDoor

/- utf.Half. -/
namespace Go.Proofs.YtakcfgmibijdnaaDoor
open Go.RowKit

set_option maxHeartbeats 800000 in
theorem utf_Half (n : Int) (w : World) : Calls Tryd.prog 170 #[.int .i64 n] w fun e w' => e = .returned (.int .i64 (halfZ n)) ∧ w = w' := by
  have hc : n < 55296 ∨ (55296 ≤ n ∧ n < 56320) ∨ (56320 ≤ n ∧ n < 57344) ∨ 57344 ≤ n := by omega
  have h0 : n < 55296 ∨ 57344 ≤ n → halfZ n = 0 := by intro h; unfold halfZ; rw [if_neg (by omega), if_neg (by omega)]
  have h1 : 55296 ≤ n ∧ n < 56320 → halfZ n = 1 := by intro h; unfold halfZ; rw [if_pos h]
  have h2 : 56320 ≤ n ∧ n < 57344 → halfZ n = 2 := by intro h; unfold halfZ; rw [if_neg (by omega), if_pos h]
  have H0 := Lib.hid h0
  have H1 := Lib.hid h1
  have H2 := Lib.hid h2
  clear h0 h1 h2
  rcases hc with h | ⟨h, h'⟩ | ⟨h, h'⟩ | h
  all_goals
    go_enter Tryd.func170, Tryd.ntmps170
    go_wp2
    go_ret
  · exact ⟨ret_i64 (H0.out (by omega)).symm, rfl⟩
  · exact ⟨ret_i64 (H1.out (by omega)).symm, rfl⟩
  · exact ⟨ret_i64 (H2.out (by omega)).symm, rfl⟩
  · exact ⟨ret_i64 (H0.out (by omega)).symm, rfl⟩

end Go.Proofs.YtakcfgmibijdnaaDoor
