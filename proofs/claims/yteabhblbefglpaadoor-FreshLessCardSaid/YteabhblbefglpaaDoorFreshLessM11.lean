/- fresh.Directives. -/
import Derived.Test.YteabhblbefglpaaDoorFreshLessM4
import Derived.Test.YteabhblbefglpaaDoorFreshLessM10
import Derived.Test.YteabhblbefglpaaDoorFreshLessM3
import Derived.Test.YteabhblbefglpaaDoorFreshLessM7
import Derived.Shelf.Strings.SlTrimAscii

namespace Go.Proofs.YteabhblbefglpaaDoor
open Go.RowKit

theorem trimS_le (s : ByteArray) : (trimS s).size ≤ s.size := by
  have hl : s.data.toList.length = s.size := rfl
  show (Lib.trimS s.data.toList [32, 9, 10, 13]).toArray.size ≤ _
  rw [List.size_toArray, ← hl]
  unfold Lib.trimS Lib.trimLeftS Lib.trimRightS
  refine Nat.le_trans (List.dropWhile_sublist _).length_le ?_
  rw [List.length_reverse]
  refine Nat.le_trans (List.dropWhile_sublist _).length_le ?_
  rw [List.length_reverse]
  exact Nat.le_refl _
def stepD : StepG := fun p full => if (trimS p).size = 0 then none else match dirP (trimS p) with
  | none => some (.error (11, 0))
  | some x => if full = true then some (.error (15, 0)) else some (.ok x)
theorem stepD_empty {p : ByteArray} {full : Bool} (h : (trimS p).size = 0) : stepD p full = none := by unfold stepD; rw [if_pos h]
theorem stepD_bad {p : ByteArray} {full : Bool} (h : (trimS p).size ≠ 0) (h2 : dirP (trimS p) = none) : stepD p full = some (.error (11, 0)) := by unfold stepD; rw [if_neg h, h2]
theorem stepD_many {p : ByteArray} {x : It} (h : (trimS p).size ≠ 0) (h2 : dirP (trimS p) = some x) : stepD p true = some (.error (15, 0)) := by unfold stepD; rw [if_neg h, h2]; rfl
theorem stepD_ok {p : ByteArray} {x : It} (h : (trimS p).size ≠ 0) (h2 : dirP (trimS p) = some x) : stepD p false = some (.ok x) := by unfold stepD; rw [if_neg h, h2]; rfl
/-- A text's directives, or the error's kind, and where. -/
def dirsD (s : ByteArray) : List It × Nat × Nat := if 1000 < s.size then ([], 14, 1000) else goG stepD 32 (partsB 44 s) 0 []
def DirsPost (s : ByteArray) (w : World) (e : Ending) (w' : World) : Prop := Below w.heap.size w w' ∧
  (((dirsD s).2.1 = 0 ∧ ∃ v, e = .returned (.tuple #[v, .nilIface]) ∧ OwnI w' w.heap.size v (dirsD s).1) ∨
   ((dirsD s).2.1 ≠ 0 ∧ ∃ v n, e = .returned (.tuple #[.slice none 0 0, v]) ∧ FaultIs w' v ((dirsD s).2.1 : Int) ((dirsD s).2.2 : Int) n))
theorem fresh_dirs_long (s : ByteArray) (w : World) (hs : 1000 < s.size) : Calls Tryd.prog 29 #[.string s] w (DirsPost s w) := by
  have HGO := Lib.hid (show dirsD s = ([], 14, 1000) by unfold dirsD; rw [if_pos hs])
  have hsI : (s.size : Int) > 1000 := by omega
  have hb : Below w.heap.size w w := Below.refl _ _
  go_enter Tryd.func29, Tryd.ntmps29
  go_wp2_with fail
  refine (api_Fail' _ _ _).mono ?_
  rintro e w5 ⟨u, rfl, hu, hb5⟩
  go_wp2_with fail
  go_ret2
  exact ⟨Bt hb hb5, .inr ⟨by rw [HGO.out]; exact (by decide : (14 : Nat) ≠ 0), u, _, rfl, by rw [HGO.out]; exact hu⟩⟩
set_option maxHeartbeats 3200000 in
set_option maxRecDepth 100000 in
theorem fresh_dirs_short (s : ByteArray) (w : World) (hs : s.size ≤ 1000) : Calls Tryd.prog 29 #[.string s] w (DirsPost s w) := by
  have cS := Lib.hid (fun W => strings_Split1 s 44 W (by omega))
  have hsI : ¬ (s.size : Int) > 1000 := by omega
  have hsum := parts_sum 44 s
  have hsz := partsB_sizes 44 s
  have hlen := partsB_len 44 s
  have hit : dirsD s = goG stepD 32 (partsB 44 s) 0 [] := by unfold dirsD; rw [if_neg (by omega)]
  have HIT := Lib.hid hit
  have HSZ := Lib.hid hsz
  clear hsz hit
  have hcells := fun W => parts_cells W (partsB 44 s)
  have HCL := Lib.hid hcells
  clear hcells
  generalize partsB 44 s = ps at *
  go_enter Tryd.func29, Tryd.ntmps29
  go_wp2_with fail
  refine (cS.out _).mono ?_
  rintro e w1 ⟨rfl, hw1⟩
  have hb1 : Below w.heap.size w w1 := by rw [← hw1]; exact (Below.refl _ _).alloc (Nat.le_refl _) _
  have hs1 : w.heap.size < w1.heap.size := by rw [← hw1]; simp
  have hc1 := HCL.out w
  rw [hw1] at hc1
  have HC1 := Lib.hid hc1
  clear hw1 HCL hc1
  go_wp2_with fail
  go_loopw [2, 4, 17] (fun v a x wr => ∃ (i at_ : Nat) (acc : List It), i ≤ ps.length ∧ x = .int .i64 i ∧ a = .int .i64 at_ ∧ OwnI wr w1.heap.size v acc ∧ Below w1.heap.size w1 wr ∧ acc.length ≤ 32 ∧ at_ + ((ps.drop i).map fun p => p.size + 1).sum = s.size + 1 ∧ dirsD s = goG stepD 32 (ps.drop i) at_ acc) (fun _ _ x _ => ps.length - (intOf x).toNat)
  case atStart => exact ⟨0, 0, [], Nat.zero_le _, rfl, rfl, OwnI.nil _ _, Below.refl _ _, by simp, by simpa using hsum, HIT.out⟩
  case round =>
    obtain ⟨i, at_, acc, hil, rfl, rfl, hown, hbr, hacc, hat, hgo⟩ := hrel
    by_cases hlt : i < ps.length
    · obtain ⟨p, hp⟩ : ∃ p, ps[i]? = some p := ⟨_, List.getElem?_eq_getElem hlt⟩
      have hcell := (hbr.cell (p := ⟨w.heap.size, i, none⟩) hs1).trans (HC1.out i p hp)
      have hpz := HSZ.out p (List.mem_of_getElem? hp)
      have hst := sum_step hp
      rw [drop_cons' hp] at hgo
      rw [hst] at hat
      have hiI : (i : Int) < (ps.length : Int) := by omega
      clear hst hp
      have cTr := Lib.hid (fold_Trim p wr (by omega))
      have htz := trimS_le p
      have HE := Lib.hid (fun full h => @stepD_empty p full h)
      have HBD := Lib.hid (fun full h h2 => @stepD_bad p full h h2)
      have HMY := Lib.hid (fun x h h2 => @stepD_many p x h h2)
      have HOKD := Lib.hid (fun x h h2 => @stepD_ok p x h h2)
      generalize trimS p = t at *
      obtain ⟨va, vc, rfl, hvc, hvm, hsl⟩ := hown.sl
      unfold maxLen at hvm
      have HAT := Lib.hid hat
      have hat4 : at_ ≤ 4000 := by omega
      clear hat hsl
      go_wp2_with fail
      refine cTr.out.mono ?_
      rintro e w2 ⟨rfl, hk⟩
      have hown2 := hown.below hk
      have hbr2 := Bt hbr hk
      clear hown hk cTr
      by_cases h0 : t.size = 0
      · have e0 := isEmpty_yes h0
        rw [goG_none (HE.out _ h0)] at hgo
        have HGO := Lib.hid hgo
        have HL := Lib.hid hacc
        clear hgo hacc
        go_wp2_with fail
        go_roundw
        case rel => exact ⟨i + 1, at_ + p.size + 1, acc, by omega, by go_num, by go_num, hown2, hbr2, HL.out, by have := HAT.out; omega, HGO.out⟩
        case measure => simp [intOf]; omega
      · have e0 := isEmpty_no (Nat.pos_of_ne_zero h0)
        have cD := Lib.hid (fresh_directive t w2 (by omega))
        go_wp2_with fail
        refine cD.out.mono ?_
        rintro e w3 ⟨hk, h⟩
        have hown3 := hown2.below hk
        have hbr3 := Bt hbr2 hk
        clear hown2 hbr2 hk cD
        rcases h with ⟨x, hx, rfl⟩ | ⟨hx, rfl⟩
        · obtain ⟨xn, xv, xh⟩ := x
          by_cases h32 : acc.length = 32
          · rw [goG_bad (by rw [decide_eq_true h32]; exact HMY.out _ h0 hx), Nat.add_zero] at hgo
            have HGO := Lib.hid hgo
            have eL : ((acc.length : Int) == 32) = true := by rw [beq_iff_eq]; omega
            have hb4 := (hb1.trans (hbr3.mono (Nat.le_of_lt hs1)))
            have hb5' := hb4.alloc hb4.size (.cells #[.string xn, .string xv, .bool xh] 94)
            clear hgo hown3 hx
            go_wp2_with fail
            refine (api_Fail' _ _ _).mono ?_
            rintro e w5 ⟨u, rfl, hu, hb5⟩
            go_wp2_with fail
            go_ret2
            exact ⟨Bt hb5' hb5, .inr ⟨by rw [HGO.out]; exact (by decide : (15 : Nat) ≠ 0), u, _, rfl, by rw [HGO.out]; exact hu⟩⟩
          · have eL : ((acc.length : Int) == 32) = false := by rw [beq_eq_false_iff_ne]; omega
            have HL : acc.length < 32 := by omega
            rw [goG_ok (by rw [decide_eq_false h32]; exact HOKD.out _ h0 hx)] at hgo
            have HGO := Lib.hid hgo
            have hbr4 := hbr3.alloc hbr3.size (.cells #[.string xn, .string xv, .bool xh] 94)
            have hown4 := hown3.below ((Below.refl w3.heap.size w3).alloc (Nat.le_refl _) (.cells #[.string xn, .string xv, .bool xh] 94))
            have hbr5 := hbr4.alloc hbr4.size (.cells #[.string xn, .string xv, .bool xh] 94)
            have hown5 := hown4.below ((Below.refl (w3.alloc (.cells #[.string xn, .string xv, .bool xh] 94)).heap.size (w3.alloc (.cells #[.string xn, .string xv, .bool xh] 94))).alloc (Nat.le_refl _) (.cells #[.string xn, .string xv, .bool xh] 94))
            have hl3 := (ItemAt.new (w := w3) (n := xn) (v := xv) (b := xh)).load
            have hbs := hbr3.size
            clear hown3 hown4 hbr4 hgo hx h32
            go_wp2_with (at_builtin; refine wpList_app_item rfl (.tmp 41) (.tmp 43) rfl w1.heap.size _ _ rfl hown5 (w3.heap.size + 1) 1 ⟨xn, xv, xh⟩ rfl (by have := heap_alloc_new (w3.alloc (.cells #[.string xn, .string xv, .bool xh] 94)) (.cells #[.string xn, .string xv, .bool xh] 94); rw [World.size_alloc] at this; exact this) (by omega) (by simp; omega) ?_)
            intro v4 w4 hown6 hg4
            have hbr6 := hown5.under hbr5 (Nat.le_refl _) hg4
            clear hown5 hbr5 hg4
            go_wp2_with fail
            go_roundw
            case rel => exact ⟨i + 1, at_ + p.size + 1, acc ++ [⟨xn, xv, xh⟩], by omega, by go_num, by go_num, hown6, hbr6, by simp; omega, by have := HAT.out; omega, HGO.out⟩
            case measure => simp [intOf]; omega
        · rw [goG_bad (HBD.out _ h0 hx), Nat.add_zero] at hgo
          have HGO := Lib.hid hgo
          have hb4 := (hb1.trans (hbr3.mono (Nat.le_of_lt hs1)))
          have hb5' := hb4.alloc hb4.size (.cells #[.string ⟨#[]⟩, .string ⟨#[]⟩, .bool false] 94)
          clear hgo hown3 hx
          go_wp2_with fail
          refine (api_Fail' _ _ _).mono ?_
          rintro e w5 ⟨u, rfl, hu, hb5⟩
          go_wp2_with fail
          go_ret2
          exact ⟨Bt hb5' hb5, .inr ⟨by rw [HGO.out]; exact (by decide : (11 : Nat) ≠ 0), u, _, rfl, by rw [HGO.out]; exact hu⟩⟩
    · obtain rfl : i = ps.length := by omega
      rw [List.drop_length, goG_nil] at hgo
      have HGO := Lib.hid hgo
      have hb2 := hb1.trans (hbr.mono (Nat.le_of_lt hs1))
      have HO := Lib.hid (hown.base' (base' := w.heap.size) (by omega))
      clear hgo hat hown
      go_wp2_with fail
      go_ret2
      exact ⟨hb2, .inl ⟨by rw [HGO.out], _, rfl, by rw [HGO.out]; exact HO.out⟩⟩
theorem fresh_Directives (s : ByteArray) (w : World) : Calls Tryd.prog 29 #[.string s] w (DirsPost s w) := by
  by_cases h : s.size ≤ 1000
  · exact fresh_dirs_short s w h
  · exact fresh_dirs_long s w (by omega)
end Go.Proofs.YteabhblbefglpaaDoor

/- media's reader: blank, mark, token. -/
namespace Go.Proofs.YteabhblbefglpaaDoor
open Go.RowKit

/-- In block p lies a reader: what it has still to read, and whether it has met what is wrong. -/
def RdAt (w : World) (p : Nat) (l : List UInt8) (bad : Bool) : Prop := w.heap[p]? = some (.cells #[.string (ofL l), .bool bad] 164 (0, 0))
section
variable {w w' : World} {p : Nat} {l : List UInt8} {bad : Bool}
theorem RdAt.lt (h : RdAt w p l bad) : p < w.heap.size := lt_of_block h
theorem RdAt.below (h : RdAt w p l bad) (hb : Below w.heap.size w w') : RdAt w' p l bad := (hb.block p h.lt).trans h
theorem RdAt.below' {B : Nat} (h : RdAt w p l bad) (hb : Below B w w') (hp : p < B) : RdAt w' p l bad := (hb.block p hp).trans h
theorem RdAt.drewN (h : RdAt w p l bad) (n : Nat) : RdAt (w.drewN n) p l bad := h
theorem RdAt.cells (h : RdAt w p l bad) : w.cell? ⟨p, 0, none⟩ = some (.string (ofL l)) ∧ w.cell? ⟨p, 1, none⟩ = some (.bool bad) := by
  unfold RdAt at h
  exact ⟨by rw [cell_of_row w p 0 _ _ _ h]; rfl, by rw [cell_of_row w p 1 _ _ _ h]; rfl⟩
theorem RdAt.frozen (h : RdAt w p l bad) (j : Nat) : w.frozen? ⟨p, j, none⟩ = false := by unfold RdAt at h; simp [World.frozen?, h]
theorem RdAt.setRest (h : RdAt w p l bad) (l' : List UInt8) : RdAt (w.setCell ⟨p, 0, none⟩ (.string (ofL l'))) p l' bad := by
  unfold RdAt at h ⊢; simp [World.setCell, Array.getElem?_modify, h]
theorem RdAt.setBad (h : RdAt w p l bad) (b : Bool) : RdAt (w.setCell ⟨p, 1, none⟩ (.bool b)) p l b := by
  unfold RdAt at h ⊢; simp [World.setCell, Array.getElem?_modify, h]
end
theorem ButB.mono {B B' b : Nat} {w w' : World} (h : ButB B b w w') (hb : B' ≤ B) : ButB B' b w w' := ⟨h.os, h.tape, h.output, h.size, fun k hk hne => h.block k (by omega) hne⟩
theorem ofL_extract (l : List UInt8) (i j : Nat) : (ofL l).extract i j = ofL ((l.drop i).take (j - i)) := by
  apply ByteArray.ext
  apply Array.ext'
  rw [Lib.extract_data]
  simp [ofL]
theorem ofL_tail (l : List UInt8) (i : Nat) : (ofL l).extract i (ofL l).size = ofL (l.drop i) := by
  rw [ofL_extract, ofL_size, List.take_of_length_le (by simp)]
theorem ofL_head (l : List UInt8) (i : Nat) : (ofL l).extract 0 i = ofL (l.take i) := by
  rw [ofL_extract]; simp
theorem ofL_byte (l : List UInt8) (i : Nat) : byteAt (ofL l) i = l.getD i 0 := rfl
theorem ofL_list2 (l : List UInt8) : (ofL l).data.toList = l := by simp [ofL]

theorem blank_is (l : List UInt8) : Lib.trimLeftS l [32, 9] = blankL l := by
  unfold Lib.trimLeftS blankL
  congr 1
  funext c
  unfold isBlank
  simp
set_option maxHeartbeats 800000 in
theorem rd_blank (B p : Nat) (l : List UInt8) (bad : Bool) (w : World) (h : RdAt w p l bad) (hB : B ≤ w.heap.size) :
    Calls Tryd.prog 109 #[.pointer (some ⟨p, 0, none⟩)] w fun e w' => e = .returned (.tuple #[]) ∧ RdAt w' p (blankL l) bad ∧ ButB B p w w' := by
  have hc : ∀ W : World, Calls Tryd.prog 145 #[.string (ofL l), .string ⟨#[32, 9]⟩] W fun e w' => e = .returned (.string (ofL (blankL l))) ∧ Below W.heap.size W w' := fun W =>
    (Any.strings_TrimLeft_laid Tryd.lays161 (by kernel_rfl) (ofL l) ⟨#[32, 9]⟩ W (by decide) (ascii_of_all (by decide))).mono fun e w' ⟨he, hb⟩ => by
      rw [ofL_list2, show (⟨#[32, 9]⟩ : ByteArray).data.toList = [32, 9] from rfl, blank_is] at he
      exact ⟨he, hb⟩
  have HC := Lib.hid hc
  obtain ⟨c0, c1⟩ := h.cells
  clear hc
  go_enter Tryd.func109, Tryd.ntmps109
  go_wp2_with fail
  refine (HC.out _).mono ?_
  rintro e w2 ⟨rfl, hb⟩
  have h2 := h.below hb
  have f2 := h2.frozen 0
  obtain ⟨d0, d1⟩ := h2.cells
  have hbu := (ButB.of_below (b := p) (hb.mono hB)).setCell 0 (.string (ofL (blankL l)))
  clear hb c0 c1 HC
  go_wp2_with fail
  go_end0
  exact ⟨rfl, h2.setRest _, hbu⟩
def markG (c : UInt8) (l : List UInt8) (bad : Bool) : List UInt8 × Bool := if bad = true then (l, true) else match l with | [] => ([], true) | x :: l' => if x = c then (l', false) else (l, true)
set_option maxHeartbeats 800000 in
theorem rd_mark (B p : Nat) (l : List UInt8) (bad : Bool) (c : UInt8) (w : World) (h : RdAt w p l bad) (hB : B ≤ w.heap.size) :
    Calls Tryd.prog 111 #[.pointer (some ⟨p, 0, none⟩), .int .u8 (c.toNat : Int)] w fun e w' => e = .returned (.tuple #[]) ∧ RdAt w' p (markG c l bad).1 (markG c l bad).2 ∧ ButB B p w w' := by
  obtain ⟨c0, c1⟩ := h.cells
  have f0 := h.frozen 0
  have f1 := h.frozen 1
  have hbt := fun u => (ButB.refl B p w).setCell 1 u
  have hbt0 := fun u => (ButB.refl B p w).setCell 0 u
  have HBT := Lib.hid hbt
  have HBT0 := Lib.hid hbt0
  clear hbt hbt0
  cases bad
  · cases l with
    | nil =>
      have e0 : (ofL []).toList.isEmpty = true := isEmpty_yes rfl
      have e1 : (ofL []).toList = [] := by simpa using e0
      go_enter Tryd.func111, Tryd.ntmps111
      go_wp2_with fail
      first | go_end0 | (simp only [Exit.inBlock, Exit.then]; refine bodyPost_ret (results_none rfl _ _ _) rfl ?_) | refine bodyPost_ret (results_none rfl _ _ _) rfl ?_
      exact ⟨rfl, h.setBad true, HBT.out _⟩
    | cons x l' =>
      have hz : 0 < (ofL (x :: l')).size := by rw [ofL_size]; simp
      have e0 : (ofL (x :: l')).toList.isEmpty = false := isEmpty_no hz
      have ei : (ofL (x :: l'))[0] = x := by rw [← byteAt_ix hz]; rfl
      by_cases hx : x = c
      · have e1 := u8_eq (show (ofL (x :: l'))[0] = c from ei.trans hx)
        have hm : markG c (x :: l') false = (l', false) := by unfold markG; simp [hx]
        rw [hm]
        clear hm ei hx
        go_enter Tryd.func111, Tryd.ntmps111
        go_wp2_with fail
        first | go_end0 | (simp only [Exit.inBlock, Exit.then]; refine bodyPost_ret (results_none rfl _ _ _) rfl ?_) | refine bodyPost_ret (results_none rfl _ _ _) rfl ?_
        refine ⟨rfl, ?_, HBT0.out _⟩
        rw [ofL_tail]
        exact h.setRest l'
      · have e1 := u8_ne (show (ofL (x :: l'))[0] ≠ c from fun e => hx (ei.symm.trans e))
        have hm : markG c (x :: l') false = (x :: l', true) := by unfold markG; simp [hx]
        rw [hm]
        clear hm ei hx
        go_enter Tryd.func111, Tryd.ntmps111
        go_wp2_with fail
        first | go_end0 | (simp only [Exit.inBlock, Exit.then]; refine bodyPost_ret (results_none rfl _ _ _) rfl ?_) | refine bodyPost_ret (results_none rfl _ _ _) rfl ?_
        exact ⟨rfl, h.setBad true, HBT.out _⟩
  · have hm : markG c l true = (l, true) := by unfold markG; simp
    rw [hm]
    clear hm
    go_enter Tryd.func111, Tryd.ntmps111
    go_wp2_with fail
    first | go_end0 | (simp only [Exit.inBlock, Exit.then]; refine bodyPost_ret (results_none rfl _ _ _) rfl ?_) | refine bodyPost_ret (results_none rfl _ _ _) rfl ?_
    exact ⟨rfl, h.setBad true, HBT.out _⟩
theorem span_at (f : UInt8 → Bool) : ∀ l : List UInt8, (∀ j, j < (l.takeWhile f).length → f (l.getD j 0) = true) ∧ (l.takeWhile f).length ≤ l.length ∧ ((l.takeWhile f).length < l.length → f (l.getD (l.takeWhile f).length 0) = false) ∧ l.takeWhile f = l.take (l.takeWhile f).length ∧ l.dropWhile f = l.drop (l.takeWhile f).length
  | [] => by simp
  | x :: l => by
    obtain ⟨h1, h2, h3, h4, h5⟩ := span_at f l
    by_cases hx : f x = true
    · rw [List.takeWhile_cons_of_pos hx, List.dropWhile_cons_of_pos hx]
      refine ⟨fun j hj => ?_, by simp; exact h2, fun h => ?_, ?_, ?_⟩
      · cases j with
        | zero => exact hx
        | succ j => exact h1 j (by simpa using hj)
      · exact h3 (by simpa using h)
      · simp only [List.length_cons, List.take_succ_cons]; rw [← h4]
      · simp only [List.length_cons, List.drop_succ_cons]; exact h5
    · rw [List.takeWhile_cons_of_neg hx, List.dropWhile_cons_of_neg hx]
      refine ⟨fun j hj => by simp at hj, by simp, fun _ => by simpa using hx, by simp, by simp⟩
set_option maxHeartbeats 1600000 in
set_option maxRecDepth 100000 in
theorem rd_token (B p : Nat) (l : List UInt8) (bad : Bool) (w : World) (h : RdAt w p l bad) (hB : B ≤ w.heap.size) (hl : l.length ≤ 16777216) :
    Calls Tryd.prog 110 #[.pointer (some ⟨p, 0, none⟩)] w fun e w' => e = .returned (.string (ofL (tokW l))) ∧ RdAt w' p (tokR l) (bad || !tokOk (tokW l)) ∧ ButB B p w w' := by
  obtain ⟨s1, s2, s3, s4, s5⟩ := span_at inTok l
  obtain ⟨c0, c1⟩ := h.cells
  have hsz := ofL_size l
  have cT := Lib.hid (fun W => media_Token (ofL (tokW l)) W (by rw [ofL_size]; exact Nat.le_trans s2 hl))
  rw [ofL_list2] at cT
  have hW : tokW l = l.take (l.takeWhile inTok).length := s4
  have hR : tokR l = l.drop (l.takeWhile inTok).length := s5
  generalize tokOk (tokW l) = ok at *
  rw [hW] at cT
  rw [hW, hR]
  generalize (l.takeWhile inTok).length = k at *
  have S1 := Lib.hid s1
  have S3 := Lib.hid s3
  have HH := Lib.hid h
  clear s1 s3 s4 s5 hW hR h
  have hkz : k ≤ (ofL l).size := by rw [hsz]; exact s2
  have hk16 : k ≤ 16777216 := Nat.le_trans s2 hl
  have HSZ := Lib.hid hsz
  have HL := Lib.hid hl
  have HS2 := Lib.hid s2
  clear hsz hl s2
  go_enter Tryd.func110, Tryd.ntmps110
  go_wp2_with fail
  go_loopw [3] (fun x wr => ∃ i : Nat, i ≤ k ∧ x = .int .i64 i ∧ w = wr) (fun x _ => k - (intOf x).toNat)
  case atStart => exact ⟨0, Nat.zero_le _, rfl, rfl⟩
  case round =>
    obtain ⟨i, hik, rfl, rfl⟩ := hrel
    by_cases hlt : i < k
    · have hz : i < (ofL l).size := by omega
      have ei : (ofL l)[i] = l.getD i 0 := by rw [← byteAt_ix hz]; rfl
      have cI := Lib.hid (media_inToken (ofL l)[i])
      rw [ei, S1.out i hlt, ← ei] at cI
      clear ei
      go_wp2_with fail
      refine (cI.out _).mono ?_
      rintro e w2 ⟨rfl, rfl⟩
      go_wp2_with fail
      go_roundw
      case rel => exact ⟨i + 1, by omega, by go_num, by trivial⟩
      case measure => simp [intOf]; omega
    · obtain rfl : i = k := by omega
      by_cases hlt2 : i < (ofL l).size
      · have ei : (ofL l)[i] = l.getD i 0 := by rw [← byteAt_ix hlt2]; rfl
        have cI := Lib.hid (media_inToken (ofL l)[i])
        rw [ei, S3.out (by have := HSZ.out; omega), ← ei] at cI
        have eh : (ofL l).extract 0 i = ofL (l.take i) := ofL_head l i
        have et : (ofL l).extract i (ofL l).size = ofL (l.drop i) := ofL_tail l i
        clear ei S1 S3
        go_wp2_with fail
        refine (cI.out _).mono ?_
        rintro e w2 ⟨rfl, rfl⟩
        have h2 := HH.out.setRest (l.drop i)
        have f0 := HH.out.frozen 0
        have f1 := h2.frozen 1
        obtain ⟨d0, d1⟩ := h2.cells
        have hb2 := (ButB.refl B p w).setCell 0 (.string (ofL (l.drop i)))
        cases bad
        · have cT' := Lib.hid (cT.out (w.setCell ⟨p, 0, none⟩ (.string (ofL (l.drop i)))))
          go_wp2_with fail
          refine cT'.out.mono ?_
          rintro e w4 ⟨rfl, hb4⟩
          have h4 := h2.below hb4
          have f4 := h4.frozen 1
          obtain ⟨g0, g1⟩ := h4.cells
          have hb4' := (hb2.trans (ButB.of_below (hb4.mono (by simpa using hB)))).setCell 1 (.bool (!ok))
          clear hb4 hb2 h2 d0 d1 f1
          go_wp2_with fail
          go_ret
          exact ⟨rfl, h4.setBad _, hb4'⟩
        · go_wp2_with fail
          go_ret
          exact ⟨rfl, h2.setBad true, hb2.setCell 1 _⟩
      · have hkz2 : i = (ofL l).size := by omega
        have eT : l.take i = l := List.take_of_length_le (by have := HSZ.out; omega)
        have eD : l.drop i = [] := List.drop_eq_nil_of_le (by have := HSZ.out; omega)
        have et : (ofL l).extract i (ofL l).size = ofL (l.drop i) := ofL_tail l i
        have ET := Lib.hid eT
        rw [eT] at cT
        have eh : (ofL l).extract 0 i = ofL l := by rw [ofL_head, eT]
        clear S1 S3 hkz2 eT eD
        have h2 := HH.out.setRest (l.drop i)
        have f0 := HH.out.frozen 0
        have f1 := h2.frozen 1
        obtain ⟨d0, d1⟩ := h2.cells
        have hb2 := (ButB.refl B p w).setCell 0 (.string (ofL (l.drop i)))
        cases bad
        · have cT' := Lib.hid (cT.out (w.setCell ⟨p, 0, none⟩ (.string (ofL (l.drop i)))))
          go_wp2_with fail
          refine cT'.out.mono ?_
          rintro e w4 ⟨rfl, hb4⟩
          have h4 := h2.below hb4
          have f4 := h4.frozen 1
          obtain ⟨g0, g1⟩ := h4.cells
          have hb4' := (hb2.trans (ButB.of_below (hb4.mono (by simpa using hB)))).setCell 1 (.bool (!ok))
          clear hb4 hb2 h2 d0 d1 f1
          go_wp2_with fail
          go_ret
          exact ⟨ret_str (by rw [ET.out]), h4.setBad _, hb4'⟩
        · go_wp2_with fail
          go_ret
          exact ⟨ret_str (by rw [ET.out]), h2.setBad true, hb2.setCell 1 _⟩
end Go.Proofs.YteabhblbefglpaaDoor
