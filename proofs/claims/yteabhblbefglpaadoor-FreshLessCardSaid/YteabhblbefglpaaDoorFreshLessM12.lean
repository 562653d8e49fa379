/- media's reader: quoted. -/
import Derived.Test.YteabhblbefglpaaDoorFreshLessM11
import Derived.Deep.LoopGhost

namespace Go.Proofs.YteabhblbefglpaaDoor
open Go.RowKit

theorem Bld.setOther {w : World} {B b p : Nat} {l : List UInt8} (h : Bld w B b l) (hp : p < b) (j : Nat) (u : Value) : Bld (w.setCell ⟨p, j, none⟩ u) B b l := by
  obtain ⟨h1, q, v, h2, h3, h4⟩ := h
  refine ⟨h1, q, v, h2, (Below.heap_setCell w ⟨p, j, none⟩ u b (fun e => by simp at e; omega)).trans h3, ownsRow_setCell_other h4 (fun e => ?_) u⟩
  have := (h4.lt p e).1
  omega
theorem RdAt.but {w w' : World} {p B b : Nat} {l : List UInt8} {bad : Bool} (h : RdAt w p l bad) (hb : ButB B b w w') (h1 : p < B) (h2 : p ≠ b) : RdAt w' p l bad := (hb.block p h1 h2).trans h
theorem quotedG_end {c : UInt8} {l out : List UInt8} (h : c = 34) : quotedG (c :: l) out = some (out, l) := by
  cases l with
  | nil => simp [quotedG, h]
  | cons d l => simp [quotedG, h]
theorem quotedG_esc {d : UInt8} {l out : List UInt8} : quotedG (92 :: d :: l) out = quotedG l (out ++ [d]) := by simp [quotedG]
theorem quotedG_esc0 {out : List UInt8} : quotedG [92] out = none := by simp [quotedG]
theorem quotedG_step {c : UInt8} {l out : List UInt8} (h : c ≠ 34) (h2 : c ≠ 92) : quotedG (c :: l) out = quotedG l (out ++ [c]) := by
  cases l with
  | nil => simp [quotedG, h]
  | cons d l => simp [quotedG, h, h2]
theorem ofL_cons_ix (x : UInt8) (l : List UInt8) (hz : 0 < (ofL (x :: l)).size) : (ofL (x :: l))[0] = x := by rw [← byteAt_ix hz]; rfl
theorem ofL_cons_pos (x : UInt8) (l : List UInt8) : 0 < (ofL (x :: l)).size := by rw [ofL_size]; simp
theorem u8_neq34 {x : UInt8} (h : x ≠ 34) : ((x.toNat : Int) == 34) = false := by
  rw [beq_eq_false_iff_ne]
  intro e
  apply h
  apply UInt8.toNat_inj.1
  show x.toNat = 34
  omega
theorem u8_neq92 {x : UInt8} (h : x ≠ 92) : ((x.toNat : Int) == 92) = false := by
  rw [beq_eq_false_iff_ne]
  intro e
  apply h
  apply UInt8.toNat_inj.1
  show x.toNat = 92
  omega
def RdQuoted (p B : Nat) (l : List UInt8) (w : World) (e : Ending) (w' : World) : Prop := ButB B p w w' ∧ ((∃ v r, quotedG l [] = some (v, r) ∧ e = .returned (.string (ofL v)) ∧ RdAt w' p r false) ∨ (quotedG l [] = none ∧ e = .returned (.string ⟨#[]⟩) ∧ ∃ r, RdAt w' p r true))
set_option maxHeartbeats 3200000 in
set_option maxRecDepth 100000 in
theorem rd_quoted_bad (B p : Nat) (l : List UInt8) (w : World) (h : RdAt w p l true) (hB : B ≤ w.heap.size) :
    Calls Tryd.prog 147 #[.pointer (some ⟨p, 0, none⟩)] w fun e w' => e = .returned (.string ⟨#[]⟩) ∧ RdAt w' p l true ∧ ButB B p w w' := by
  have hb1 : Below w.heap.size w (w.alloc (.cells #[.pointer none, .slice none 0 0] 225)) := (Below.refl _ _).alloc (Nat.le_refl _) _
  have h1 := h.below hb1
  have hbu := ButB.of_below (b := p) (hb1.mono hB)
  have cM := Lib.hid (rd_mark B p l true 34 _ h1 (by simp; omega))
  have hm : markG 34 l true = (l, true) := by unfold markG; simp
  rw [hm] at cM
  clear hm h h1 hb1
  go_enter Tryd.func147, Tryd.ntmps147
  go_wp2_with fail
  refine cM.out.mono ?_
  rintro e w2 ⟨rfl, h2, hb2⟩
  have hb3 := hbu.trans hb2
  obtain ⟨c0, c1⟩ := h2.cells
  go_wp2_with fail
  refine wp_loop_rounds 1 ?_
  rw [rounds_succ]
  go_wp2_with fail
  go_ret
  exact ⟨rfl, h2, hb3⟩
set_option maxHeartbeats 6400000 in
set_option maxRecDepth 100000 in
theorem rd_quoted (B p : Nat) (l : List UInt8) (w : World) (h : RdAt w p (34 :: l) false) (hB : B ≤ w.heap.size) (hl : l.length ≤ 16777216) :
    Calls Tryd.prog 147 #[.pointer (some ⟨p, 0, none⟩)] w (RdQuoted p B l w) := by
  have hlt := h.lt
  have hb1 : Below w.heap.size w (w.alloc (.cells #[.pointer none, .slice none 0 0] 225)) := (Below.refl _ _).alloc (Nat.le_refl _) _
  have h1 := h.below hb1
  have hbu := ButB.of_below (b := p) (hb1.mono hB)
  have hbl : Bld (w.alloc (.cells #[.pointer none, .slice none 0 0] 225)) (w.heap.size + 1) w.heap.size [] := Bld.new rfl (heap_alloc_new w _) (by omega)
  have cM := Lib.hid (rd_mark (w.heap.size + 1) p (34 :: l) false 34 _ h1 (by simp))
  have hm : markG 34 (34 :: l) false = (l, false) := by unfold markG; simp
  rw [hm] at cM
  clear hm h h1 hb1
  go_enter Tryd.func147, Tryd.ntmps147
  go_wp2_with fail
  refine cM.out.mono ?_
  rintro e w2 ⟨rfl, h2, hb2⟩
  have hbl2 : Bld w2 (w.heap.size + 1) w.heap.size [] := Bld.new rfl ((hb2.block w.heap.size (by omega) (by omega)).trans (heap_alloc_new w _)) (by omega)
  have hb02 := hbu.trans (hb2.mono (by omega))
  have hs2 : w.heap.size + 1 ≤ w2.heap.size := by have := hb2.size; simpa using this
  have HL := Lib.hid hl
  clear hbl hbu cM hb2 hl
  go_wp2_with fail
  go_loopg [] l.length (fun g wr => ∃ (r out : List UInt8), g = r.length ∧ RdAt wr p r false ∧ Bld wr (w.heap.size + 1) w.heap.size out ∧ ButB B p w wr ∧ quotedG l [] = quotedG r out ∧ out.length + r.length ≤ l.length ∧ w.heap.size + 1 ≤ wr.heap.size)
  case atStart => exact ⟨l, [], rfl, h2, hbl2, hb02, rfl, by simp, hs2⟩
  case round =>
    obtain ⟨r, out, rfl, hr, hbl, hbu, hq, hlen, hsz⟩ := hrel
    obtain ⟨c0, c1⟩ := hr.cells
    have f0 := hr.frozen 0
    have f1 := hr.frozen 1
    have HLEN := Lib.hid hlen
    cases r with
    | nil =>
      have e0 : (ofL []).toList.isEmpty = true := isEmpty_yes rfl
      have e1 : (ofL []).toList = [] := by simpa using e0
      have HQ := Lib.hid hq
      have HR := Lib.hid (hr.setBad true)
      have HB := Lib.hid (hbu.setCell 1 (.bool true))
      clear hq hr hbu hlen
      go_wp2_with fail
      go_ret
      exact ⟨HB.out, .inr ⟨by rw [HQ.out]; rfl, rfl, _, HR.out⟩⟩
    | cons x r' =>
      have hz := ofL_cons_pos x r'
      have ei := ofL_cons_ix x r' hz
      have e0 : (ofL (x :: r')).toList.isEmpty = false := isEmpty_no hz
      have et : (ofL (x :: r')).extract 1 (ofL (x :: r')).size = ofL r' := ofL_tail _ 1
      simp only [List.length_cons] at hlen
      by_cases hx34 : x = 34
      · have e34 : ((x.toNat : Int) == 34) = true := by rw [hx34]; rfl
        rw [quotedG_end hx34] at hq
        have HQ := Lib.hid hq
        have hr2 := hr.setRest r'
        have hbl2 := hbl.setOther hlt 0 (.string (ofL r'))
        have hbu2 := hbu.setCell 0 (.string (ofL r'))
        have hsz2 : w.heap.size + 1 ≤ (wr.setCell ⟨p, 0, none⟩ (.string (ofL r'))).heap.size := by simpa using hsz
        clear hq hlen hx34 hr hbl hbu
        go_wp2_with fail
        refine (bld_String _ _ _ _ hbl2 hsz2).mono ?_
        rintro e w4 ⟨rfl, hb4⟩
        have hr4 := hr2.below' hb4 hlt
        have hbu4 := hbu2.trans (ButB.of_below (hb4.mono hB))
        clear hr2 hbl2 hbu2 hb4
        go_wp2_with fail
        go_ret
        exact ⟨hbu4, .inl ⟨out, r', HQ.out, rfl, hr4⟩⟩
      · have e34 : ((x.toNat : Int) == 34) = false := u8_neq34 hx34
        by_cases hx92 : x = 92
        · subst hx92
          have e92 : (((92 : UInt8).toNat : Int) == 92) = true := rfl
          have hr2 := hr.setRest r'
          have hbl2 := hbl.setOther hlt 0 (.string (ofL r'))
          have hbu2 := hbu.setCell 0 (.string (ofL r'))
          have hsz2 : w.heap.size + 1 ≤ (wr.setCell ⟨p, 0, none⟩ (.string (ofL r'))).heap.size := by simpa using hsz
          obtain ⟨d0, d1⟩ := hr2.cells
          have g0 := hr2.frozen 0
          have g1 := hr2.frozen 1
          cases r' with
          | nil =>
            rw [quotedG_esc0] at hq
            have e2 : (ofL []).toList.isEmpty = true := isEmpty_yes rfl
            have e1 : (ofL []).toList = [] := by simpa using e2
            have HQ := Lib.hid hq
            have HR := Lib.hid (hr2.setBad true)
            have HB := Lib.hid (hbu2.setCell 1 (.bool true))
            clear hq hr hbu hlen hbl hbl2 hbu2 hr2
            go_wp2_with fail
            go_ret
            exact ⟨HB.out, .inr ⟨by rw [HQ.out], rfl, _, HR.out⟩⟩
          | cons d r2 =>
            rw [quotedG_esc] at hq
            simp only [List.length_cons] at hlen
            have HQ := Lib.hid hq
            have hz2 := ofL_cons_pos d r2
            have ei2 := ofL_cons_ix d r2 hz2
            have e2 : (ofL (d :: r2)).toList.isEmpty = false := isEmpty_no hz2
            have et2 : (ofL (d :: r2)).extract 1 (ofL (d :: r2)).size = ofL r2 := ofL_tail _ 1
            have cW := Lib.hid (bld_WriteByte _ _ out d _ hbl2 (by have := HL.out; omega) hsz2)
            have e3 : (ofL (d :: r2)).toList ≠ [] := by simpa using e2
            clear hq hx34 hbl hbl2 hr hbu
            go_wp2_with fail
            refine cW.out.mono ?_
            rintro e w4 ⟨rfl, hbl4, hbu4⟩
            have hr4 := hr2.but hbu4 (by omega) (by omega)
            have hs4 : w.heap.size + 1 ≤ w4.heap.size := Nat.le_trans hsz2 hbu4.size
            have hb4 := hbu2.trans (ButB.of_below (hbu4.below hB (by omega)))
            obtain ⟨k0, k1⟩ := hr4.cells
            have j0 := hr4.frozen 0
            have hr5 := hr4.setRest r2
            have hbl5 := hbl4.setOther hlt 0 (.string (ofL r2))
            have hbu5 := hb4.setCell 0 (.string (ofL r2))
            have hs5 : w.heap.size + 1 ≤ (w4.setCell ⟨p, 0, none⟩ (.string (ofL r2))).heap.size := by simpa using hs4
            clear hr2 hbl4 hbu4 hb4 hr4 c0 c1 f0 f1 hbu2 cW d0 d1 g0 g1
            go_wp2_with fail
            go_roundg r2.length
            case measure => simp; omega
            case rel => exact ⟨r2, out ++ [d], rfl, hr5, hbl5, hbu5, HQ.out, by simp; omega, hs5⟩
        · have e92 : ((x.toNat : Int) == 92) = false := u8_neq92 hx92
          rw [quotedG_step hx34 hx92] at hq
          have HQ := Lib.hid hq
          have cW := Lib.hid (bld_WriteByte _ _ out x wr hbl (by have := HL.out; omega) hsz)
          clear hq hx34 hx92 hbl
          go_wp2_with fail
          refine cW.out.mono ?_
          rintro e w4 ⟨rfl, hbl4, hbu4⟩
          have hr4 := hr.but hbu4 (by omega) (by omega)
          have hs4 : w.heap.size + 1 ≤ w4.heap.size := Nat.le_trans hsz hbu4.size
          have hb4 := hbu.trans (ButB.of_below (hbu4.below hB (by omega)))
          obtain ⟨d0, d1⟩ := hr4.cells
          have g0 := hr4.frozen 0
          have hr5 := hr4.setRest r'
          have hbl5 := hbl4.setOther hlt 0 (.string (ofL r'))
          have hbu5 := hb4.setCell 0 (.string (ofL r'))
          have hs5 : w.heap.size + 1 ≤ (w4.setCell ⟨p, 0, none⟩ (.string (ofL r'))).heap.size := by simpa using hs4
          clear hr hbl4 hbu4 hb4 hr4 c0 c1 f0 f1 hbu cW
          go_wp2_with fail
          go_roundg r'.length
          case measure => simp
          case rel => exact ⟨r', out ++ [x], rfl, hr5, hbl5, hbu5, HQ.out, by simp; omega, hs5⟩
end Go.Proofs.YteabhblbefglpaaDoor
