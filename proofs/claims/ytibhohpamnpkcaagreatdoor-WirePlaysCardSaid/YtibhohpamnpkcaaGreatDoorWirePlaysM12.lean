/- media's reader: blank, mark, token. -/
import Derived.Test.YtibhohpamnpkcaaGreatDoorWirePlaysM11
import Derived.Shelf.Strings.SlTrimAscii
import Derived.Deep.LoopGhost
import Derived.Test.YtibhohpamnpkcaaGreatDoorWirePlaysM10
import Derived.Laws.Tables
import Derived.Laws.ResultCell

namespace Go.Proofs.YtibhohpamnpkcaaGreatDoor
open Go.RowKit

/-- In block p lies a reader: what it has still to read, and whether it has met what is wrong. -/
def RdAt (w : World) (p : Nat) (l : List UInt8) (bad : Bool) : Prop := w.heap[p]? = some (.cells #[.string (ofL l), .bool bad] 187 (0, 0))
section
variable {w w' : World} {p : Nat} {l : List UInt8} {bad : Bool}
theorem RdAt.lt (h : RdAt w p l bad) : p < w.heap.size := lt_of_block h
theorem RdAt.below (h : RdAt w p l bad) (hb : Below w.heap.size w w') : RdAt w' p l bad := (hb.block p h.lt).trans h
theorem RdAt.below' {B : Nat} (h : RdAt w p l bad) (hb : Below B w w') (hp : p < B) : RdAt w' p l bad := (hb.block p hp).trans h
theorem RdAt.drewN (h : RdAt w p l bad) (n : Nat) : RdAt (w.drewN n) p l bad := h
theorem RdAt.cells (h : RdAt w p l bad) : w.cell? ⟨p, 0, none⟩ = some (.string (ofL l)) ∧ w.cell? ⟨p, 1, none⟩ = some (.bool bad) := by
  unfold RdAt at h
  exact ⟨by rw [cell_of_row w p 0 _ _ _ h]; rfl, by rw [cell_of_row w p 1 _ _ _ h]; rfl⟩
theorem RdAt.frozen (h : RdAt w p l bad) (j : Nat) : w.frozen? ⟨p, j, none⟩ = false := by unfold RdAt at h; simp [World.frozen?, h]
theorem RdAt.setRest (h : RdAt w p l bad) (l' : List UInt8) : RdAt (w.setCell ⟨p, 0, none⟩ (.string (ofL l'))) p l' bad := by
  unfold RdAt at h ⊢; simp [World.setCell, Array.getElem?_modify, h]
theorem RdAt.setBad (h : RdAt w p l bad) (b : Bool) : RdAt (w.setCell ⟨p, 1, none⟩ (.bool b)) p l b := by
  unfold RdAt at h ⊢; simp [World.setCell, Array.getElem?_modify, h]
end
theorem ButB.mono {B B' b : Nat} {w w' : World} (h : ButB B b w w') (hb : B' ≤ B) : ButB B' b w w' := ⟨h.os, h.tape, h.output, h.size, fun k hk hne => h.block k (by omega) hne⟩
theorem ofL_extract (l : List UInt8) (i j : Nat) : (ofL l).extract i j = ofL ((l.drop i).take (j - i)) := by
  apply ByteArray.ext
  apply Array.ext'
  rw [Lib.extract_data]
  simp [ofL]
theorem ofL_tail (l : List UInt8) (i : Nat) : (ofL l).extract i (ofL l).size = ofL (l.drop i) := by
  rw [ofL_extract, ofL_size, List.take_of_length_le (by simp)]
theorem ofL_head (l : List UInt8) (i : Nat) : (ofL l).extract 0 i = ofL (l.take i) := by
  rw [ofL_extract]; simp
theorem ofL_byte (l : List UInt8) (i : Nat) : byteAt (ofL l) i = l.getD i 0 := rfl
theorem ofL_list2 (l : List UInt8) : (ofL l).data.toList = l := by simp [ofL]

theorem blank_is (l : List UInt8) : Lib.trimLeftS l [32, 9] = blankL l := by
  unfold Lib.trimLeftS blankL
  congr 1
  funext c
  unfold isBlank
  simp
set_option maxHeartbeats 800000 in
theorem rd_blank (B p : Nat) (l : List UInt8) (bad : Bool) (w : World) (h : RdAt w p l bad) (hB : B ≤ w.heap.size) :
    Calls Tryz.prog 92 #[.pointer (some ⟨p, 0, none⟩)] w fun e w' => e = .returned (.tuple #[]) ∧ RdAt w' p (blankL l) bad ∧ ButB B p w w' := by
  have hc : ∀ W : World, Calls Tryz.prog 128 #[.string (ofL l), .string ⟨#[32, 9]⟩] W fun e w' => e = .returned (.string (ofL (blankL l))) ∧ Below W.heap.size W w' := fun W =>
    (Any.strings_TrimLeft_laid Tryz.lays161 (by kernel_rfl) (ofL l) ⟨#[32, 9]⟩ W (by decide) (ascii_of_all (by decide))).mono fun e w' ⟨he, hb⟩ => by
      rw [ofL_list2, show (⟨#[32, 9]⟩ : ByteArray).data.toList = [32, 9] from rfl, blank_is] at he
      exact ⟨he, hb⟩
  have HC := Lib.hid hc
  obtain ⟨c0, c1⟩ := h.cells
  clear hc
  go_enter Tryz.func92, Tryz.ntmps92
  go_wp2_with fail
  refine (HC.out _).mono ?_
  rintro e w2 ⟨rfl, hb⟩
  have h2 := h.below hb
  have f2 := h2.frozen 0
  obtain ⟨d0, d1⟩ := h2.cells
  have hbu := (ButB.of_below (b := p) (hb.mono hB)).setCell 0 (.string (ofL (blankL l)))
  clear hb c0 c1 HC
  go_wp2_with fail
  go_end0
  exact ⟨rfl, h2.setRest _, hbu⟩
def markG (c : UInt8) (l : List UInt8) (bad : Bool) : List UInt8 × Bool := if bad = true then (l, true) else match l with | [] => ([], true) | x :: l' => if x = c then (l', false) else (l, true)
set_option maxHeartbeats 800000 in
theorem rd_mark (B p : Nat) (l : List UInt8) (bad : Bool) (c : UInt8) (w : World) (h : RdAt w p l bad) (hB : B ≤ w.heap.size) :
    Calls Tryz.prog 95 #[.pointer (some ⟨p, 0, none⟩), .int .u8 (c.toNat : Int)] w fun e w' => e = .returned (.tuple #[]) ∧ RdAt w' p (markG c l bad).1 (markG c l bad).2 ∧ ButB B p w w' := by
  obtain ⟨c0, c1⟩ := h.cells
  have f0 := h.frozen 0
  have f1 := h.frozen 1
  have hbt := fun u => (ButB.refl B p w).setCell 1 u
  have hbt0 := fun u => (ButB.refl B p w).setCell 0 u
  have HBT := Lib.hid hbt
  have HBT0 := Lib.hid hbt0
  clear hbt hbt0
  cases bad
  · cases l with
    | nil =>
      have e0 : (ofL []).toList.isEmpty = true := isEmpty_yes rfl
      have e1 : (ofL []).toList = [] := by simpa using e0
      go_enter Tryz.func95, Tryz.ntmps95
      go_wp2_with fail
      first | go_end0 | (simp only [Exit.inBlock, Exit.then]; refine bodyPost_ret (results_none rfl _ _ _) rfl ?_) | refine bodyPost_ret (results_none rfl _ _ _) rfl ?_
      exact ⟨rfl, h.setBad true, HBT.out _⟩
    | cons x l' =>
      have hz : 0 < (ofL (x :: l')).size := by rw [ofL_size]; simp
      have e0 : (ofL (x :: l')).toList.isEmpty = false := isEmpty_no hz
      have ei : (ofL (x :: l'))[0] = x := by rw [← byteAt_ix hz]; rfl
      by_cases hx : x = c
      · have e1 := u8_eq (show (ofL (x :: l'))[0] = c from ei.trans hx)
        have hm : markG c (x :: l') false = (l', false) := by unfold markG; simp [hx]
        rw [hm]
        clear hm ei hx
        go_enter Tryz.func95, Tryz.ntmps95
        go_wp2_with fail
        first | go_end0 | (simp only [Exit.inBlock, Exit.then]; refine bodyPost_ret (results_none rfl _ _ _) rfl ?_) | refine bodyPost_ret (results_none rfl _ _ _) rfl ?_
        refine ⟨rfl, ?_, HBT0.out _⟩
        rw [ofL_tail]
        exact h.setRest l'
      · have e1 := u8_ne (show (ofL (x :: l'))[0] ≠ c from fun e => hx (ei.symm.trans e))
        have hm : markG c (x :: l') false = (x :: l', true) := by unfold markG; simp [hx]
        rw [hm]
        clear hm ei hx
        go_enter Tryz.func95, Tryz.ntmps95
        go_wp2_with fail
        first | go_end0 | (simp only [Exit.inBlock, Exit.then]; refine bodyPost_ret (results_none rfl _ _ _) rfl ?_) | refine bodyPost_ret (results_none rfl _ _ _) rfl ?_
        exact ⟨rfl, h.setBad true, HBT.out _⟩
  · have hm : markG c l true = (l, true) := by unfold markG; simp
    rw [hm]
    clear hm
    go_enter Tryz.func95, Tryz.ntmps95
    go_wp2_with fail
    first | go_end0 | (simp only [Exit.inBlock, Exit.then]; refine bodyPost_ret (results_none rfl _ _ _) rfl ?_) | refine bodyPost_ret (results_none rfl _ _ _) rfl ?_
    exact ⟨rfl, h.setBad true, HBT.out _⟩
theorem span_at (f : UInt8 → Bool) : ∀ l : List UInt8, (∀ j, j < (l.takeWhile f).length → f (l.getD j 0) = true) ∧ (l.takeWhile f).length ≤ l.length ∧ ((l.takeWhile f).length < l.length → f (l.getD (l.takeWhile f).length 0) = false) ∧ l.takeWhile f = l.take (l.takeWhile f).length ∧ l.dropWhile f = l.drop (l.takeWhile f).length
  | [] => by simp
  | x :: l => by
    obtain ⟨h1, h2, h3, h4, h5⟩ := span_at f l
    by_cases hx : f x = true
    · rw [List.takeWhile_cons_of_pos hx, List.dropWhile_cons_of_pos hx]
      refine ⟨fun j hj => ?_, by simp; exact h2, fun h => ?_, ?_, ?_⟩
      · cases j with
        | zero => exact hx
        | succ j => exact h1 j (by simpa using hj)
      · exact h3 (by simpa using h)
      · simp only [List.length_cons, List.take_succ_cons]; rw [← h4]
      · simp only [List.length_cons, List.drop_succ_cons]; exact h5
    · rw [List.takeWhile_cons_of_neg hx, List.dropWhile_cons_of_neg hx]
      refine ⟨fun j hj => by simp at hj, by simp, fun _ => by simpa using hx, by simp, by simp⟩
set_option maxHeartbeats 1600000 in
set_option maxRecDepth 100000 in
theorem rd_token (B p : Nat) (l : List UInt8) (bad : Bool) (w : World) (h : RdAt w p l bad) (hB : B ≤ w.heap.size) (hl : l.length ≤ 16777216) :
    Calls Tryz.prog 94 #[.pointer (some ⟨p, 0, none⟩)] w fun e w' => e = .returned (.string (ofL (tokW l))) ∧ RdAt w' p (tokR l) (bad || !tokOk (tokW l)) ∧ ButB B p w w' := by
  obtain ⟨s1, s2, s3, s4, s5⟩ := span_at inTok l
  obtain ⟨c0, c1⟩ := h.cells
  have hsz := ofL_size l
  have cT := Lib.hid (fun W => media_Token (ofL (tokW l)) W (by rw [ofL_size]; exact Nat.le_trans s2 hl))
  rw [ofL_list2] at cT
  have hW : tokW l = l.take (l.takeWhile inTok).length := s4
  have hR : tokR l = l.drop (l.takeWhile inTok).length := s5
  generalize tokOk (tokW l) = ok at *
  rw [hW] at cT
  rw [hW, hR]
  generalize (l.takeWhile inTok).length = k at *
  have S1 := Lib.hid s1
  have S3 := Lib.hid s3
  have HH := Lib.hid h
  clear s1 s3 s4 s5 hW hR h
  have hkz : k ≤ (ofL l).size := by rw [hsz]; exact s2
  have hk16 : k ≤ 16777216 := Nat.le_trans s2 hl
  have HSZ := Lib.hid hsz
  have HL := Lib.hid hl
  have HS2 := Lib.hid s2
  clear hsz hl s2
  go_enter Tryz.func94, Tryz.ntmps94
  go_wp2_with fail
  go_loopw [3] (fun x wr => ∃ i : Nat, i ≤ k ∧ x = .int .i64 i ∧ w = wr) (fun x _ => k - (intOf x).toNat)
  case atStart => exact ⟨0, Nat.zero_le _, rfl, rfl⟩
  case round =>
    obtain ⟨i, hik, rfl, rfl⟩ := hrel
    by_cases hlt : i < k
    · have hz : i < (ofL l).size := by omega
      have ei : (ofL l)[i] = l.getD i 0 := by rw [← byteAt_ix hz]; rfl
      have cI := Lib.hid (media_inToken (ofL l)[i])
      rw [ei, S1.out i hlt, ← ei] at cI
      clear ei
      go_wp2_with fail
      refine (cI.out _).mono ?_
      rintro e w2 ⟨rfl, rfl⟩
      go_wp2_with fail
      go_roundw
      case rel => exact ⟨i + 1, by omega, by go_num, by trivial⟩
      case measure => simp [intOf]; omega
    · obtain rfl : i = k := by omega
      by_cases hlt2 : i < (ofL l).size
      · have ei : (ofL l)[i] = l.getD i 0 := by rw [← byteAt_ix hlt2]; rfl
        have cI := Lib.hid (media_inToken (ofL l)[i])
        rw [ei, S3.out (by have := HSZ.out; omega), ← ei] at cI
        have eh : (ofL l).extract 0 i = ofL (l.take i) := ofL_head l i
        have et : (ofL l).extract i (ofL l).size = ofL (l.drop i) := ofL_tail l i
        clear ei S1 S3
        go_wp2_with fail
        refine (cI.out _).mono ?_
        rintro e w2 ⟨rfl, rfl⟩
        have h2 := HH.out.setRest (l.drop i)
        have f0 := HH.out.frozen 0
        have f1 := h2.frozen 1
        obtain ⟨d0, d1⟩ := h2.cells
        have hb2 := (ButB.refl B p w).setCell 0 (.string (ofL (l.drop i)))
        cases bad
        · have cT' := Lib.hid (cT.out (w.setCell ⟨p, 0, none⟩ (.string (ofL (l.drop i)))))
          go_wp2_with fail
          refine cT'.out.mono ?_
          rintro e w4 ⟨rfl, hb4⟩
          have h4 := h2.below hb4
          have f4 := h4.frozen 1
          obtain ⟨g0, g1⟩ := h4.cells
          have hb4' := (hb2.trans (ButB.of_below (hb4.mono (by simpa using hB)))).setCell 1 (.bool (!ok))
          clear hb4 hb2 h2 d0 d1 f1
          go_wp2_with fail
          go_ret
          exact ⟨rfl, h4.setBad _, hb4'⟩
        · go_wp2_with fail
          go_ret
          exact ⟨rfl, h2.setBad true, hb2.setCell 1 _⟩
      · have hkz2 : i = (ofL l).size := by omega
        have eT : l.take i = l := List.take_of_length_le (by have := HSZ.out; omega)
        have eD : l.drop i = [] := List.drop_eq_nil_of_le (by have := HSZ.out; omega)
        have et : (ofL l).extract i (ofL l).size = ofL (l.drop i) := ofL_tail l i
        have ET := Lib.hid eT
        rw [eT] at cT
        have eh : (ofL l).extract 0 i = ofL l := by rw [ofL_head, eT]
        clear S1 S3 hkz2 eT eD
        have h2 := HH.out.setRest (l.drop i)
        have f0 := HH.out.frozen 0
        have f1 := h2.frozen 1
        obtain ⟨d0, d1⟩ := h2.cells
        have hb2 := (ButB.refl B p w).setCell 0 (.string (ofL (l.drop i)))
        cases bad
        · have cT' := Lib.hid (cT.out (w.setCell ⟨p, 0, none⟩ (.string (ofL (l.drop i)))))
          go_wp2_with fail
          refine cT'.out.mono ?_
          rintro e w4 ⟨rfl, hb4⟩
          have h4 := h2.below hb4
          have f4 := h4.frozen 1
          obtain ⟨g0, g1⟩ := h4.cells
          have hb4' := (hb2.trans (ButB.of_below (hb4.mono (by simpa using hB)))).setCell 1 (.bool (!ok))
          clear hb4 hb2 h2 d0 d1 f1
          go_wp2_with fail
          go_ret
          exact ⟨ret_str (by rw [ET.out]), h4.setBad _, hb4'⟩
        · go_wp2_with fail
          go_ret
          exact ⟨ret_str (by rw [ET.out]), h2.setBad true, hb2.setCell 1 _⟩
end Go.Proofs.YtibhohpamnpkcaaGreatDoor

/- media's reader: quoted. -/
namespace Go.Proofs.YtibhohpamnpkcaaGreatDoor
open Go.RowKit

theorem Bld.setOther {w : World} {B b p : Nat} {l : List UInt8} (h : Bld w B b l) (hp : p < b) (j : Nat) (u : Value) : Bld (w.setCell ⟨p, j, none⟩ u) B b l := by
  obtain ⟨h1, q, v, h2, h3, h4⟩ := h
  refine ⟨h1, q, v, h2, (Below.heap_setCell w ⟨p, j, none⟩ u b (fun e => by simp at e; omega)).trans h3, ownsRow_setCell_other h4 (fun e => ?_) u⟩
  have := (h4.lt p e).1
  omega
theorem RdAt.but {w w' : World} {p B b : Nat} {l : List UInt8} {bad : Bool} (h : RdAt w p l bad) (hb : ButB B b w w') (h1 : p < B) (h2 : p ≠ b) : RdAt w' p l bad := (hb.block p h1 h2).trans h
theorem quotedG_end {c : UInt8} {l out : List UInt8} (h : c = 34) : quotedG (c :: l) out = some (out, l) := by
  cases l with
  | nil => simp [quotedG, h]
  | cons d l => simp [quotedG, h]
theorem quotedG_esc {d : UInt8} {l out : List UInt8} : quotedG (92 :: d :: l) out = quotedG l (out ++ [d]) := by simp [quotedG]
theorem quotedG_esc0 {out : List UInt8} : quotedG [92] out = none := by simp [quotedG]
theorem quotedG_step {c : UInt8} {l out : List UInt8} (h : c ≠ 34) (h2 : c ≠ 92) : quotedG (c :: l) out = quotedG l (out ++ [c]) := by
  cases l with
  | nil => simp [quotedG, h]
  | cons d l => simp [quotedG, h, h2]
theorem ofL_cons_ix (x : UInt8) (l : List UInt8) (hz : 0 < (ofL (x :: l)).size) : (ofL (x :: l))[0] = x := by rw [← byteAt_ix hz]; rfl
theorem ofL_cons_pos (x : UInt8) (l : List UInt8) : 0 < (ofL (x :: l)).size := by rw [ofL_size]; simp
theorem u8_neq34 {x : UInt8} (h : x ≠ 34) : ((x.toNat : Int) == 34) = false := by
  rw [beq_eq_false_iff_ne]
  intro e
  apply h
  apply UInt8.toNat_inj.1
  show x.toNat = 34
  omega
theorem u8_neq92 {x : UInt8} (h : x ≠ 92) : ((x.toNat : Int) == 92) = false := by
  rw [beq_eq_false_iff_ne]
  intro e
  apply h
  apply UInt8.toNat_inj.1
  show x.toNat = 92
  omega
def RdQuoted (p B : Nat) (l : List UInt8) (w : World) (e : Ending) (w' : World) : Prop := ButB B p w w' ∧ ((∃ v r, quotedG l [] = some (v, r) ∧ e = .returned (.string (ofL v)) ∧ RdAt w' p r false) ∨ (quotedG l [] = none ∧ e = .returned (.string ⟨#[]⟩) ∧ ∃ r, RdAt w' p r true))
set_option maxHeartbeats 3200000 in
set_option maxRecDepth 100000 in
theorem rd_quoted_bad (B p : Nat) (l : List UInt8) (w : World) (h : RdAt w p l true) (hB : B ≤ w.heap.size) :
    Calls Tryz.prog 132 #[.pointer (some ⟨p, 0, none⟩)] w fun e w' => e = .returned (.string ⟨#[]⟩) ∧ RdAt w' p l true ∧ ButB B p w w' := by
  have hb1 : Below w.heap.size w (w.alloc (.cells #[.pointer none, .slice none 0 0] 280)) := (Below.refl _ _).alloc (Nat.le_refl _) _
  have h1 := h.below hb1
  have hbu := ButB.of_below (b := p) (hb1.mono hB)
  have cM := Lib.hid (rd_mark B p l true 34 _ h1 (by simp; omega))
  have hm : markG 34 l true = (l, true) := by unfold markG; simp
  rw [hm] at cM
  clear hm h h1 hb1
  go_enter Tryz.func132, Tryz.ntmps132
  go_wp2_with fail
  refine cM.out.mono ?_
  rintro e w2 ⟨rfl, h2, hb2⟩
  have hb3 := hbu.trans hb2
  obtain ⟨c0, c1⟩ := h2.cells
  go_wp2_with fail
  refine wp_loop_rounds 1 ?_
  rw [rounds_succ]
  go_wp2_with fail
  go_ret
  exact ⟨rfl, h2, hb3⟩
set_option maxHeartbeats 6400000 in
set_option maxRecDepth 100000 in
theorem rd_quoted (B p : Nat) (l : List UInt8) (w : World) (h : RdAt w p (34 :: l) false) (hB : B ≤ w.heap.size) (hl : l.length ≤ 16777216) :
    Calls Tryz.prog 132 #[.pointer (some ⟨p, 0, none⟩)] w (RdQuoted p B l w) := by
  have hlt := h.lt
  have hb1 : Below w.heap.size w (w.alloc (.cells #[.pointer none, .slice none 0 0] 280)) := (Below.refl _ _).alloc (Nat.le_refl _) _
  have h1 := h.below hb1
  have hbu := ButB.of_below (b := p) (hb1.mono hB)
  have hbl : Bld (w.alloc (.cells #[.pointer none, .slice none 0 0] 280)) (w.heap.size + 1) w.heap.size [] := Bld.new rfl (heap_alloc_new w _) (by omega)
  have cM := Lib.hid (rd_mark (w.heap.size + 1) p (34 :: l) false 34 _ h1 (by simp))
  have hm : markG 34 (34 :: l) false = (l, false) := by unfold markG; simp
  rw [hm] at cM
  clear hm h h1 hb1
  go_enter Tryz.func132, Tryz.ntmps132
  go_wp2_with fail
  refine cM.out.mono ?_
  rintro e w2 ⟨rfl, h2, hb2⟩
  have hbl2 : Bld w2 (w.heap.size + 1) w.heap.size [] := Bld.new rfl ((hb2.block w.heap.size (by omega) (by omega)).trans (heap_alloc_new w _)) (by omega)
  have hb02 := hbu.trans (hb2.mono (by omega))
  have hs2 : w.heap.size + 1 ≤ w2.heap.size := by have := hb2.size; simpa using this
  have HL := Lib.hid hl
  clear hbl hbu cM hb2 hl
  go_wp2_with fail
  go_loopg [] l.length (fun g wr => ∃ (r out : List UInt8), g = r.length ∧ RdAt wr p r false ∧ Bld wr (w.heap.size + 1) w.heap.size out ∧ ButB B p w wr ∧ quotedG l [] = quotedG r out ∧ out.length + r.length ≤ l.length ∧ w.heap.size + 1 ≤ wr.heap.size)
  case atStart => exact ⟨l, [], rfl, h2, hbl2, hb02, rfl, by simp, hs2⟩
  case round =>
    obtain ⟨r, out, rfl, hr, hbl, hbu, hq, hlen, hsz⟩ := hrel
    obtain ⟨c0, c1⟩ := hr.cells
    have f0 := hr.frozen 0
    have f1 := hr.frozen 1
    have HLEN := Lib.hid hlen
    cases r with
    | nil =>
      have e0 : (ofL []).toList.isEmpty = true := isEmpty_yes rfl
      have e1 : (ofL []).toList = [] := by simpa using e0
      have HQ := Lib.hid hq
      have HR := Lib.hid (hr.setBad true)
      have HB := Lib.hid (hbu.setCell 1 (.bool true))
      clear hq hr hbu hlen
      go_wp2_with fail
      go_ret
      exact ⟨HB.out, .inr ⟨by rw [HQ.out]; rfl, rfl, _, HR.out⟩⟩
    | cons x r' =>
      have hz := ofL_cons_pos x r'
      have ei := ofL_cons_ix x r' hz
      have e0 : (ofL (x :: r')).toList.isEmpty = false := isEmpty_no hz
      have et : (ofL (x :: r')).extract 1 (ofL (x :: r')).size = ofL r' := ofL_tail _ 1
      simp only [List.length_cons] at hlen
      by_cases hx34 : x = 34
      · have e34 : ((x.toNat : Int) == 34) = true := by rw [hx34]; rfl
        rw [quotedG_end hx34] at hq
        have HQ := Lib.hid hq
        have hr2 := hr.setRest r'
        have hbl2 := hbl.setOther hlt 0 (.string (ofL r'))
        have hbu2 := hbu.setCell 0 (.string (ofL r'))
        have hsz2 : w.heap.size + 1 ≤ (wr.setCell ⟨p, 0, none⟩ (.string (ofL r'))).heap.size := by simpa using hsz
        clear hq hlen hx34 hr hbl hbu
        go_wp2_with fail
        refine (bld_String _ _ _ _ hbl2 hsz2).mono ?_
        rintro e w4 ⟨rfl, hb4⟩
        have hr4 := hr2.below' hb4 hlt
        have hbu4 := hbu2.trans (ButB.of_below (hb4.mono hB))
        clear hr2 hbl2 hbu2 hb4
        go_wp2_with fail
        go_ret
        exact ⟨hbu4, .inl ⟨out, r', HQ.out, rfl, hr4⟩⟩
      · have e34 : ((x.toNat : Int) == 34) = false := u8_neq34 hx34
        by_cases hx92 : x = 92
        · subst hx92
          have e92 : (((92 : UInt8).toNat : Int) == 92) = true := rfl
          have hr2 := hr.setRest r'
          have hbl2 := hbl.setOther hlt 0 (.string (ofL r'))
          have hbu2 := hbu.setCell 0 (.string (ofL r'))
          have hsz2 : w.heap.size + 1 ≤ (wr.setCell ⟨p, 0, none⟩ (.string (ofL r'))).heap.size := by simpa using hsz
          obtain ⟨d0, d1⟩ := hr2.cells
          have g0 := hr2.frozen 0
          have g1 := hr2.frozen 1
          cases r' with
          | nil =>
            rw [quotedG_esc0] at hq
            have e2 : (ofL []).toList.isEmpty = true := isEmpty_yes rfl
            have e1 : (ofL []).toList = [] := by simpa using e2
            have HQ := Lib.hid hq
            have HR := Lib.hid (hr2.setBad true)
            have HB := Lib.hid (hbu2.setCell 1 (.bool true))
            clear hq hr hbu hlen hbl hbl2 hbu2 hr2
            go_wp2_with fail
            go_ret
            exact ⟨HB.out, .inr ⟨by rw [HQ.out], rfl, _, HR.out⟩⟩
          | cons d r2 =>
            rw [quotedG_esc] at hq
            simp only [List.length_cons] at hlen
            have HQ := Lib.hid hq
            have hz2 := ofL_cons_pos d r2
            have ei2 := ofL_cons_ix d r2 hz2
            have e2 : (ofL (d :: r2)).toList.isEmpty = false := isEmpty_no hz2
            have et2 : (ofL (d :: r2)).extract 1 (ofL (d :: r2)).size = ofL r2 := ofL_tail _ 1
            have cW := Lib.hid (bld_WriteByte _ _ out d _ hbl2 (by have := HL.out; omega) hsz2)
            have e3 : (ofL (d :: r2)).toList ≠ [] := by simpa using e2
            clear hq hx34 hbl hbl2 hr hbu
            go_wp2_with fail
            refine cW.out.mono ?_
            rintro e w4 ⟨rfl, hbl4, hbu4⟩
            have hr4 := hr2.but hbu4 (by omega) (by omega)
            have hs4 : w.heap.size + 1 ≤ w4.heap.size := Nat.le_trans hsz2 hbu4.size
            have hb4 := hbu2.trans (ButB.of_below (hbu4.below hB (by omega)))
            obtain ⟨k0, k1⟩ := hr4.cells
            have j0 := hr4.frozen 0
            have hr5 := hr4.setRest r2
            have hbl5 := hbl4.setOther hlt 0 (.string (ofL r2))
            have hbu5 := hb4.setCell 0 (.string (ofL r2))
            have hs5 : w.heap.size + 1 ≤ (w4.setCell ⟨p, 0, none⟩ (.string (ofL r2))).heap.size := by simpa using hs4
            clear hr2 hbl4 hbu4 hb4 hr4 c0 c1 f0 f1 hbu2 cW d0 d1 g0 g1
            go_wp2_with fail
            go_roundg r2.length
            case measure => simp; omega
            case rel => exact ⟨r2, out ++ [d], rfl, hr5, hbl5, hbu5, HQ.out, by simp; omega, hs5⟩
        · have e92 : ((x.toNat : Int) == 92) = false := u8_neq92 hx92
          rw [quotedG_step hx34 hx92] at hq
          have HQ := Lib.hid hq
          have cW := Lib.hid (bld_WriteByte _ _ out x wr hbl (by have := HL.out; omega) hsz)
          clear hq hx34 hx92 hbl
          go_wp2_with fail
          refine cW.out.mono ?_
          rintro e w4 ⟨rfl, hbl4, hbu4⟩
          have hr4 := hr.but hbu4 (by omega) (by omega)
          have hs4 : w.heap.size + 1 ≤ w4.heap.size := Nat.le_trans hsz hbu4.size
          have hb4 := hbu.trans (ButB.of_below (hbu4.below hB (by omega)))
          obtain ⟨d0, d1⟩ := hr4.cells
          have g0 := hr4.frozen 0
          have hr5 := hr4.setRest r'
          have hbl5 := hbl4.setOther hlt 0 (.string (ofL r'))
          have hbu5 := hb4.setCell 0 (.string (ofL r'))
          have hs5 : w.heap.size + 1 ≤ (w4.setCell ⟨p, 0, none⟩ (.string (ofL r'))).heap.size := by simpa using hs4
          clear hr hbl4 hbu4 hb4 hr4 c0 c1 f0 f1 hbu cW
          go_wp2_with fail
          go_roundg r'.length
          case measure => simp
          case rel => exact ⟨r', out ++ [x], rfl, hr5, hbl5, hbu5, HQ.out, by simp; omega, hs5⟩
end Go.Proofs.YtibhohpamnpkcaaGreatDoor

/- An item in a variable of a function's own; given back out of it. -/
namespace Go.Proofs.YtibhohpamnpkcaaGreatDoor
open Go.RowKit

theorem size_item : (Tryz.prog.info? 102).map (·.size) = some 3 := by kernel_rfl
def itemA (n v : ByteArray) (h : Bool) : Array Value := #[.string n, .string v, .bool h]
/-- In block g lies an item. -/
def ItemAt (w : World) (g : Nat) (n v : ByteArray) (h : Bool) : Prop := w.heap[g]? = some (.cells #[.string n, .string v, .bool h] 102 (0, 0))
section
variable {w w' : World} {g : Nat} {n v : ByteArray} {b : Bool}
theorem ItemAt.new : ItemAt (w.alloc (.cells #[.string n, .string v, .bool b] 102)) w.heap.size n v b := heap_alloc_new w _
theorem ItemAt.lt (h : ItemAt w g n v b) : g < w.heap.size := lt_of_block h
theorem ItemAt.below (h : ItemAt w g n v b) (hb : Below w.heap.size w w') : ItemAt w' g n v b := (hb.block g h.lt).trans h
theorem ItemAt.below' {B : Nat} (h : ItemAt w g n v b) (hb : Below B w w') (hB : g < B) : ItemAt w' g n v b := (hb.block g hB).trans h
theorem ItemAt.drewN (h : ItemAt w g n v b) (m : Nat) : ItemAt (w.drewN m) g n v b := h
theorem ItemAt.set (h : ItemAt w g n v b) (n' v' : ByteArray) (b' : Bool) : ItemAt (w.setRow g #[.string n', .string v', .bool b']) g n' v' b' := setRow_heap w g _ _ _ _ h
theorem ItemAt.setHas (h : ItemAt w g n v b) (b' : Bool) : ItemAt (w.setCell ⟨g, 2, none⟩ (.bool b')) g n v b' := by
  unfold ItemAt at h ⊢; simp [World.setCell, Array.getElem?_modify, h]
theorem ItemAt.setValue (h : ItemAt w g n v b) (v' : ByteArray) : ItemAt (w.setCell ⟨g, 1, none⟩ (.string v')) g n v' b := by
  unfold ItemAt at h ⊢; simp [World.setCell, Array.getElem?_modify, h]
theorem ItemAt.setName (h : ItemAt w g n v b) (n' : ByteArray) : ItemAt (w.setCell ⟨g, 0, none⟩ (.string n')) g n' v b := by
  unfold ItemAt at h ⊢; simp [World.setCell, Array.getElem?_modify, h]
theorem ItemAt.setOther (h : ItemAt w g n v b) {q : Nat} (hq : q ≠ g) (j : Nat) (u : Value) : ItemAt (w.setCell ⟨q, j, none⟩ u) g n v b := (Below.heap_setCell w ⟨q, j, none⟩ u g (fun e => hq e.symm)).trans h
theorem ItemAt.frozen (h : ItemAt w g n v b) (j : Nat) : w.frozen? ⟨g, j, none⟩ = false := by
  unfold ItemAt at h; simp [World.frozen?, h]
theorem ItemAt.load (h : ItemAt w g n v b) : (loadVar 102 ⟨g, 0, none⟩).run Tryz.prog w = .ok (.agg #[.string n, .string v, .bool b]) w :=
  run_loadVar_row w g _ _ _ _ _ h Tryz.underlying102 rfl (by rw [size_item]; rfl)
theorem ItemAt.cells (h : ItemAt w g n v b) : w.cell? ⟨g, 0, none⟩ = some (.string n) ∧ w.cell? ⟨g, 1, none⟩ = some (.string v) ∧ w.cell? ⟨g, 2, none⟩ = some (.bool b) := by
  unfold ItemAt at h
  refine ⟨?_, ?_, ?_⟩
  · rw [cell_of_row w g 0 _ _ _ h]; rfl
  · rw [cell_of_row w g 1 _ _ _ h]; rfl
  · rw [cell_of_row w g 2 _ _ _ h]; rfl
end
theorem below_setRowI {B : Nat} {a w : World} (h : Below B a w) {g : Nat} (hg : B ≤ g) (cs : Array Value) : Below B a (w.setRow g cs) :=
  ⟨h.os, h.tape, h.output, by simpa using h.size, fun k hk => (setRow_other w g k cs (by omega)).trans (h.block k hk)⟩
theorem FaultIs.setItem {w : World} {x : Value} {k i : Int} {m : Value} {g : Nat} {n v : ByteArray} {b : Bool} (h : FaultIs w x k i m) (hg : ItemAt w g n v b) (ds : Array Value) : FaultIs (w.setRow g ds) x k i m := by
  obtain ⟨q, rfl, hh⟩ := h
  have hne : q ≠ g := by
    rintro rfl
    unfold ItemAt at hg
    rw [hh] at hg
    injection hg with this
    injection this with h1 h2
    injection h1 with h3
    injection h3 with h4
    cases h4
  exact ⟨q, rfl, (setRow_other w g q ds hne).trans hh⟩
section
variable {fn : Func} {p u : Tmp} {tmps : Array Value} {w : World} {g : Nat} {n v : ByteArray} {b : Bool}
theorem results_item (h : fn.results = #[.cell p 102, .tmp u]) (hp : tmps.getD p undef = .pointer (some ⟨g, 0, none⟩)) (hg : ItemAt w g n v b) :
    (results fn tmps).run Tryz.prog w = .ok (.tuple #[.agg #[.string n, .string v, .bool b], tmps.getD u undef]) w := by
  rw [results_cell_tmp h, hp]
  simp [asAddr, Result.andThen, hg.load]
end
section
variable {w : World} {ops : Array Oper} {rest : List Oper} {o : Oper} {a : Act} {Q : Exit → Act → World → Prop}
theorem all_item (n v : ByteArray) (b : Bool) : (#[Value.string n, .string v, .bool b] : Array Value).all (·.oneCell') = true := by simp [Value.oneCell']
/-- An item is stored into a variable of the function's own. -/
theorem wpList_store_item (hgd : o.guard = none) (x y : Operand) (ho : o.op = .store 102 x y) (g : Nat) (n v : ByteArray) (b : Bool) (hx : a.eval x = .pointer (some ⟨g, 0, none⟩)) (hy : a.eval y = .agg #[.string n, .string v, .bool b]) (n0 v0 : ByteArray) (b0 : Bool) (hg : ItemAt w g n0 v0 b0)
    (h : ItemAt (w.setRow g #[.string n, .string v, .bool b]) g n v b → wpList Tryz.prog ops Q rest (a.put o.dst undef) (w.setRow g #[.string n, .string v, .bool b])) : wpList Tryz.prog ops Q (o :: rest) a w :=
  wpList_store_row hgd _ x y ho g _ hx hy _ _ hg (by rw [size_item]; rfl) rfl (all_item n v b) (h (hg.set _ _ _))
end
end Go.Proofs.YtibhohpamnpkcaaGreatDoor
