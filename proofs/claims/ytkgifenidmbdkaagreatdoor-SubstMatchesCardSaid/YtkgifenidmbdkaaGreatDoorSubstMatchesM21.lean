/- The reference's among of chapter 19. -/
import Derived.Test.YtkgifenidmbdkaaGreatDoorSubstMatchesM20
import Derived.Test.YtkgifenidmbdkaaGreatDoorSubstMatchesM14
import Derived.Test.YtkgifenidmbdkaaGreatDoorSubstMatchesM17
import Derived.Test.YtkgifenidmbdkaaGreatDoorSubstMatchesM15
import Derived.Test.YtkgifenidmbdkaaGreatDoorSubstMatchesM8
import Derived.Test.YtkgifenidmbdkaaGreatDoorSubstMatchesM9

namespace Go.Proofs.YtkgifenidmbdkaaGreatDoor
open Go.RowKit

set_option maxHeartbeats 3200000 in
set_option maxRecDepth 100000 in
theorem ref19_among (a : Option Addr) (cap i0 sz : Nat) (cs : List Nat) (list : ByteArray) (fold : Bool) (w : World) (hsl : CharsSl w a cs) (hcs : ∀ c ∈ cs, c ≤ 1114111) (hn : cs.length ≤ 16777216) (hi : i0 + sz ≤ cs.length) (hl : list.size ≤ 16777216) :
    Calls Tryz.prog 86 #[.slice a cs.length cap, .int .i64 (i0 : Int), .int .i64 (sz : Int), .string list, .bool fold] w fun e w' => e = .returned (.bool ((segL cs i0 (i0 + sz)).all (withinB fold list))) ∧ Below w.heap.size w w' := by
  have HCS := Lib.hid hcs
  clear hcs
  have z0 : IntKind.i64.wrap ((i0 : Int) + (sz : Int)) = (i0 : Int) + (sz : Int) := IntWalk.i64_in _ (by omega)
  go_enter Tryz.func86, Tryz.ntmps86
  go_wp2_with fail
  go_loopw [11] (fun x wr => ∃ i : Nat, i0 ≤ i ∧ i ≤ i0 + sz ∧ x = .int .i64 i ∧ (segL cs i0 i).all (withinB fold list) = true ∧ Below w.heap.size w wr) (fun x _ => i0 + sz - (intOf x).toNat)
  case atStart => exact ⟨i0, Nat.le_refl _, by omega, rfl, by rw [seg_self]; rfl, Below.refl _ _⟩
  case round =>
    obtain ⟨i, hi0, hil, rfl, hall, hbr⟩ := hrel
    by_cases hlt : i < i0 + sz
    · have hiI : (i : Int) < (i0 : Int) + (sz : Int) := by omega
      obtain ⟨c, hc⟩ : ∃ c, cs[i]? = some c := ⟨_, List.getElem?_eq_getElem (by omega)⟩
      have hcm := HCS.out c (List.mem_of_getElem? hc)
      obtain ⟨bb, ha, hbb, hcell⟩ := (hsl.below hbr) i c hc
      have hmem : c ∈ segL cs i0 (i0 + sz) := by
        refine List.mem_of_getElem? (i := i - i0) ?_
        unfold segL
        rw [List.getElem?_drop, List.getElem?_take, if_pos (by omega), show i0 + (i - i0) = i by omega, hc]
      have hno : withinB fold list c = false → (segL cs i0 (i0 + sz)).all (withinB fold list) = false := fun h => by
        rw [List.all_eq_false]; exact ⟨c, hmem, by rw [h]; decide⟩
      have hst : withinB fold list c = true → (segL cs i0 (i + 1)).all (withinB fold list) = true := fun h => by
        rw [seg_snoc hi0 hc, List.all_append, hall]; simp [h]
      rw [← am_within] at hno hst
      have HNO := Lib.hid hno
      have HST := Lib.hid hst
      clear hno hst hmem hc hall
      subst ha
      by_cases h127 : 127 < c
      · have e1 : (127 : Int) < (c : Int) := by omega
        have HX := Lib.hid (HNO.out (by unfold amB; rw [if_pos h127]))
        clear h127 HNO HST
        go_wp2_with fail
        go_ret
        exact ⟨ret_bool (by rw [HX.out]), hbr⟩
      · have e1 : ¬ (127 : Int) < (c : Int) := by omega
        have hw : IntKind.u8.wrap (c : Int) = (c : Int) := IntWalk.u8_in _ (by omega)
        have hcn : (UInt8.ofNat c).toNat = c := by simp; omega
        have c1 := Lib.hid (show ∀ W : World, Calls Tryz.prog 127 #[.string list, .int .u8 (c : Int)] W fun e w' => e = .returned (.bool (hasB list (UInt8.ofNat c))) ∧ W = w' from fun W => by
          have := ref_Has list (UInt8.ofNat c) W (by omega)
          rwa [hcn] at this)
        have c2 := Lib.hid (show ∀ W : World, Calls Tryz.prog 127 #[.string letB, .int .u8 (c : Int)] W fun e w' => e = .returned (.bool (isLet c)) ∧ W = w' from fun W => by
          have := ref_Has letB (UInt8.ofNat c) W (by decide)
          rwa [hcn, let_nat (by omega)] at this)
        have c3 := Lib.hid (fun W => ref_Lower list W hl)
        have c4 := Lib.hid (show ∀ W : World, Calls Tryz.prog 129 #[.int .u8 (c : Int)] W fun e w' => e = .returned (.int .u8 ((lowerB (UInt8.ofNat c)).toNat : Int)) ∧ W = w' from fun W => by
          have := ref_Small' (UInt8.ofNat c) W
          rwa [hcn] at this)
        have c5 := Lib.hid (show ∀ W : World, Calls Tryz.prog 127 #[.string (lowerS list), .int .u8 ((lowerB (UInt8.ofNat c)).toNat : Int)] W fun e w' => e = .returned (.bool (hasB (lowerS list) (lowerB (UInt8.ofNat c)))) ∧ W = w' from fun W => ref_Has (lowerS list) (lowerB (UInt8.ofNat c)) W (by rw [lowerS_size]; omega))
        have HAM := Lib.hid (show amB fold list c = if (fold && isLet c) = true then hasB (lowerS list) (lowerB (UInt8.ofNat c)) else hasB list (UInt8.ofNat c) by unfold amB; rw [if_neg h127])
        clear h127 hcn
        generalize hasB list (UInt8.ofNat c) = r1 at *
        generalize hasB (lowerS list) (lowerB (UInt8.ofNat c)) = r2 at *
        generalize isLet c = il at *
        generalize lowerS list = low at *
        generalize lowerB (UInt8.ofNat c) = lc at *
        go_wp2_with fail
        refine (c1.out _).mono ?_
        rintro e w2 ⟨rfl, rfl⟩
        cases fold with
        | false =>
          cases r1 with
          | false =>
            have HX := Lib.hid (HNO.out (by rw [HAM.out]; rfl))
            go_wp2_with fail
            go_ret
            exact ⟨ret_bool (by rw [HX.out]), hbr⟩
          | true =>
            have HX := Lib.hid (HST.out (by rw [HAM.out]; rfl))
            go_wp2_with fail
            go_roundw
            case rel => exact ⟨i + 1, by omega, by omega, by go_num, HX.out, hbr⟩
            case measure => simp [intOf]; omega
        | true =>
          go_wp2_with fail
          refine (c2.out _).mono ?_
          rintro e w3 ⟨rfl, rfl⟩
          cases il with
          | false =>
            cases r1 with
            | false =>
              have HX := Lib.hid (HNO.out (by rw [HAM.out]; rfl))
              go_wp2_with fail
              go_ret
              exact ⟨ret_bool (by rw [HX.out]), hbr⟩
            | true =>
              have HX := Lib.hid (HST.out (by rw [HAM.out]; rfl))
              go_wp2_with fail
              go_roundw
              case rel => exact ⟨i + 1, by omega, by omega, by go_num, HX.out, hbr⟩
              case measure => simp [intOf]; omega
          | true =>
            go_wp2_with fail
            refine (c3.out _).mono ?_
            rintro e w4 ⟨rfl, hb4⟩
            have hbr4 := Bt hbr hb4
            go_wp2_with fail
            refine (c4.out _).mono ?_
            rintro e w5 ⟨rfl, rfl⟩
            go_wp2_with fail
            refine (c5.out _).mono ?_
            rintro e w6 ⟨rfl, rfl⟩
            cases r2 with
            | false =>
              have HX := Lib.hid (HNO.out (by rw [HAM.out]; rfl))
              go_wp2_with fail
              go_ret
              exact ⟨ret_bool (by rw [HX.out]), hbr4⟩
            | true =>
              have HX := Lib.hid (HST.out (by rw [HAM.out]; rfl))
              go_wp2_with fail
              go_roundw
              case rel => exact ⟨i + 1, by omega, by omega, by go_num, HX.out, hbr4⟩
              case measure => simp [intOf]; omega
    · obtain rfl : i = i0 + sz := by omega
      have hiI : ¬ (((i0 + sz : Nat) : Int)) < (i0 : Int) + (sz : Int) := by omega
      have HX := Lib.hid hall
      clear hall
      go_wp2_with fail
      go_ret
      exact ⟨ret_bool (by rw [HX.out]), hbr⟩
end Go.Proofs.YtkgifenidmbdkaaGreatDoor

/- The reference's next of chapter 19. -/
namespace Go.Proofs.YtkgifenidmbdkaaGreatDoor
open Go.RowKit

set_option maxHeartbeats 6400000 in
set_option maxRecDepth 100000 in
theorem ref19_next (p : ByteArray) (k0 : Nat) (w : World) (hp : p.size ≤ 16777216) (hk0 : k0 ≤ p.size) :
    Calls Tryz.prog 38 #[.string p, .int .i64 (k0 : Int)] w fun e w' => e = .returned (.tuple #[.int .i64 (nextP p k0).1, .int .i64 (nextP p k0).2]) ∧ w = w' := by
  go_enter Tryz.func38, Tryz.ntmps38
  go_wp2_with fail
  go_loopw [6] (fun x wr => ∃ i : Nat, k0 ≤ i ∧ i ≤ p.size ∧ x = .int .i64 i ∧ (∀ j, k0 ≤ j → j < i → ¬ (byteAt p j = 36 ∧ byteAt p (j + 1) = 40)) ∧ w = wr) (fun x _ => p.size - (intOf x).toNat)
  case atStart => exact ⟨k0, Nat.le_refl _, hk0, rfl, fun j h1 h2 => by omega, by trivial⟩
  case round =>
    obtain ⟨i, hki, hil, rfl, hall, rfl⟩ := hrel
    have z1 : IntKind.i64.wrap ((i : Int) + 1) = (i : Int) + 1 := IntWalk.i64_in _ (by omega)
    by_cases hlt : i + 1 < p.size
    · have hiI : (i : Int) + 1 < (p.size : Int) := by omega
      have hi1 : i < p.size := by omega
      have hiI1 : (i : Int) < (p.size : Int) := by omega
      have y1 : ((i : Int) + 1).toNat = i + 1 := by omega
      have y2 : (0 : Int) ≤ (i : Int) + 1 := by omega
      have hx1 := byteAt_idx (s := p) (i := i) hi1
      have hx2 := byteAt_idx (s := p) (i := i + 1) hlt
      by_cases g1 : byteAt p i = 36
      · by_cases g2 : byteAt p (i + 1) = 40
        · have HG := Lib.hid (show byteAt p i = 36 ∧ byteAt p (i + 1) = 40 from ⟨g1, g2⟩)
          have HALL := Lib.hid hall
          rw [g1] at hx1
          rw [g2] at hx2
          have z2 : IntKind.i64.wrap ((i : Int) + 2) = (i : Int) + 2 := IntWalk.i64_in _ (by omega)
          clear g1 g2 hall
          go_wp2_with fail
          go_loopw [7] (fun x wr => ∃ k : Nat, i + 2 ≤ k ∧ k ≤ p.size ∧ x = .int .i64 k ∧ (∀ j, i + 2 ≤ j → j < k → byteAt p j ≠ 41) ∧ w = wr) (fun x _ => p.size - (intOf x).toNat)
          case atStart => exact ⟨i + 2, Nat.le_refl _, by omega, by go_num, fun j h1 h2 => by omega, by trivial⟩
          case round =>
            obtain ⟨k, hik, hkl, rfl, hno, rfl⟩ := hrel
            by_cases hk : k < p.size
            · have hkI : (k : Int) < (p.size : Int) := by omega
              have hx3 := byteAt_idx (s := p) (i := k) hk
              by_cases g3 : byteAt p k = 41
              · have HX := Lib.hid (nextP_yes hki HG.out HALL.out hik hk g3 hno)
                rw [g3] at hx3
                clear g3 hno
                go_wp2_with fail
                go_ret2
                exact ⟨by rw [HX.out]; rfl, rfl⟩
              · have e41 : (((byteAt p k).toNat : Int) == 41) = false := by
                  rw [beq_eq_false_iff_ne]
                  intro h
                  exact g3 (UInt8.toNat_inj.1 (by show _ = 41; omega))
                have HNO := Lib.hid (show ∀ j, i + 2 ≤ j → j < k + 1 → byteAt p j ≠ 41 from fun j h1 h2 => by
                  by_cases e : j = k
                  · rw [e]; exact g3
                  · exact hno j h1 (by omega))
                clear g3 hno
                generalize byteAt p k = bk at *
                go_wp2_with fail
                go_roundw
                case rel => exact ⟨k + 1, by omega, by omega, by go_num, HNO.out, by trivial⟩
                case measure => simp [intOf]; omega
            · obtain rfl : k = p.size := by omega
              have HX := Lib.hid (nextP_bad hki hlt HG.out HALL.out hno)
              clear hno
              go_wp2_with fail
              go_ret2
              exact ⟨by rw [HX.out]; rfl, rfl⟩
        · have e36 : (((byteAt p i).toNat : Int) != 36) = false := by rw [g1]; rfl
          have e40 : (((byteAt p (i + 1)).toNat : Int) != 40) = true := by
            rw [bne_iff_ne]
            intro h
            exact g2 (UInt8.toNat_inj.1 (by show _ = 40; omega))
          have HNO := Lib.hid (show ∀ j, k0 ≤ j → j < i + 1 → ¬ (byteAt p j = 36 ∧ byteAt p (j + 1) = 40) from fun j h1 h2 => by
            by_cases e : j = i
            · rw [e]; exact fun h => g2 h.2
            · exact hall j h1 (by omega))
          clear g1 g2 hall
          generalize byteAt p i = b1 at *
          generalize byteAt p (i + 1) = b2 at *
          go_wp2_with fail
          go_roundw
          case rel => exact ⟨i + 1, by omega, by omega, by go_num, HNO.out, by trivial⟩
          case measure => simp [intOf]; omega
      · have e36 : (((byteAt p i).toNat : Int) != 36) = true := by
          rw [bne_iff_ne]
          intro h
          exact g1 (UInt8.toNat_inj.1 (by show _ = 36; omega))
        have HNO := Lib.hid (show ∀ j, k0 ≤ j → j < i + 1 → ¬ (byteAt p j = 36 ∧ byteAt p (j + 1) = 40) from fun j h1 h2 => by
          by_cases e : j = i
          · rw [e]; exact fun h => g1 h.1
          · exact hall j h1 (by omega))
        clear g1 hall hx2
        generalize byteAt p i = b1 at *
        go_wp2_with fail
        go_roundw
        case rel => exact ⟨i + 1, by omega, by omega, by go_num, HNO.out, by trivial⟩
        case measure => simp [intOf]; omega
    · have hiI : ¬ (i : Int) + 1 < (p.size : Int) := by omega
      have HX := Lib.hid (nextP_none hk0 (fun j h1 h2 => hall j h1 (by omega)))
      clear hall
      go_wp2_with fail
      go_ret2
      exact ⟨by rw [HX.out]; rfl, rfl⟩
end Go.Proofs.YtkgifenidmbdkaaGreatDoor

/- The reference's Class of chapter 19. -/
namespace Go.Proofs.YtkgifenidmbdkaaGreatDoor
open Go.RowKit

def clsX (i : Nat) : ByteArray × ByteArray × Nat := clsT.getD i (⟨#[]⟩, ⟨#[]⟩, 0)
theorem clsX_get {i : Nat} (h : i < 8) : clsT[i]? = some (clsX i) := by
  unfold clsX
  rw [List.getD, List.getElem?_eq_getElem (show i < clsT.length from h)]; rfl
theorem clsX_size : ∀ i : Fin 8, (clsX i.1).2.2 = if 5 < i.1 then 2 else 1 := by decide
theorem own_at {s : ByteArray} {i : Nat} (h : i < 8) (he : (clsX i).1 = s) (hall : ∀ j, j < i → (clsX j).1 ≠ s) : ownC s = some ((clsX i).2.1, if 5 < i then 2 else 1) := by
  have hg := findG_hit (P := fun x : ByteArray × ByteArray × Nat => decide (x.1 = s)) (clsX_get h) (by simpa using he) (fun j y hj hy => by
    rw [clsX_get (by omega)] at hy
    injection hy with hy
    rw [← hy]
    simpa using hall j hj)
  rcases own_cases s with ⟨h1, _⟩ | ⟨k, x, h1, h2, h3, h4⟩
  · rw [hg] at h1; omega
  · rw [hg] at h1
    obtain rfl : i = k := by omega
    rw [clsX_get h] at h3
    injection h3 with h3
    rw [h4, ← h3, ← clsX_size ⟨i, h⟩]
theorem own_none {s : ByteArray} (hall : ∀ j, j < 8 → (clsX j).1 ≠ s) : ownC s = none := by
  rcases own_cases s with ⟨_, h⟩ | ⟨k, x, h1, h2, h3, h4⟩
  · exact h
  · exfalso
    have hf := findG_none (P := fun x : ByteArray × ByteArray × Nat => decide (x.1 = s)) (l := clsT) (fun j y hy => by
      have hj : j < 8 := (List.getElem?_eq_some_iff.1 hy).1
      rw [clsX_get hj] at hy
      injection hy with hy
      rw [← hy]
      simpa using hall j hj)
    rw [hf] at h1
    omega
def ClassRPost (s : ByteArray) (e : Ending) : Prop := (ownC s = none ∧ e = .returned (.tuple #[.string ⟨#[]⟩, .int .i64 0])) ∨ ∃ am sz, ownC s = some (am, sz) ∧ 1 ≤ sz ∧ sz ≤ 2 ∧ e = .returned (.tuple #[.string am, .int .i64 ((sz : Nat) : Int)])
def nmA : Array Value := (clsT.map fun c => Value.string c.1).toArray
def amA : Array Value := (clsT.map fun c => Value.string c.2.1).toArray
theorem nmA_get {i : Nat} (h : i < 8) : nmA[i]? = some (.string (clsX i).1) := by
  unfold nmA
  rw [List.getElem?_toArray, List.getElem?_map, clsX_get h]; rfl
theorem amA_get {i : Nat} (h : i < 8) : amA[i]? = some (.string (clsX i).2.1) := by
  unfold amA
  rw [List.getElem?_toArray, List.getElem?_map, clsX_get h]; rfl
set_option maxHeartbeats 3200000 in
set_option maxRecDepth 100000 in
theorem ref19_Class (s : ByteArray) (w : World) : Calls Tryz.prog 39 #[.string s] w fun e w' => ClassRPost s e ∧ Below w.heap.size w w' := by
  have hA : Below w.heap.size w (w.alloc (.cells nmA 9)) := (Below.refl _ _).alloc (Nat.le_refl _) _
  have hB : Below (w.alloc (.cells nmA 9)).heap.size (w.alloc (.cells nmA 9)) ((w.alloc (.cells nmA 9)).alloc (.cells amA 9)) := (Below.refl _ _).alloc (Nat.le_refl _) _
  have qa := (hB.block w.heap.size (by simp)).trans (heap_alloc_new w (.cells nmA 9))
  have qb := heap_alloc_new (w.alloc (.cells nmA 9)) (.cells amA 9)
  rw [World.size_alloc] at qb
  have hb := Bt hA hB
  have ca : ∀ i, i < 8 → ((w.alloc (.cells nmA 9)).alloc (.cells amA 9)).cell? ⟨w.heap.size, i, none⟩ = some (.string (clsX i).1) := fun i hi => (cell_of_row _ _ i _ _ _ qa).trans (nmA_get hi)
  have cb : ∀ i, i < 8 → ((w.alloc (.cells nmA 9)).alloc (.cells amA 9)).cell? ⟨w.heap.size + 1, i, none⟩ = some (.string (clsX i).2.1) := fun i hi => (cell_of_row _ _ i _ _ _ qb).trans (amA_get hi)
  have l1 := lt_of_block qa
  have l2 := lt_of_block qb
  have CA := Lib.hid ca
  have CB := Lib.hid cb
  clear ca cb qa qb hA hB
  have en : nmA = #[.string (clsX 0).1, .string (clsX 1).1, .string (clsX 2).1, .string (clsX 3).1, .string (clsX 4).1, .string (clsX 5).1, .string (clsX 6).1, .string (clsX 7).1] := rfl
  go_enter Tryz.func39, Tryz.ntmps39
  go_wp2_with fail
  change Code.wp _ _ _ _ ((w.alloc (.cells nmA 9)).alloc (.cells amA 9))
  generalize (w.alloc (.cells nmA 9)).alloc (.cells amA 9) = w2 at *
  clear en
  go_loopw [6] (fun x wr => ∃ i : Nat, i ≤ 8 ∧ x = .int .i64 i ∧ (∀ j, j < i → (clsX j).1 ≠ s) ∧ w2 = wr) (fun x _ => 8 - (intOf x).toNat)
  case atStart => exact ⟨0, Nat.zero_le _, rfl, fun j h => by omega, by trivial⟩
  case round =>
    obtain ⟨i, hil, rfl, hall, rfl⟩ := hrel
    by_cases hlt : i < 8
    · have hiI : (i : Int) < 8 := by omega
      have d0 := CA.out i hlt
      have d1 := CB.out i hlt
      have he := str_eqB (clsX i).1 s
      have hyes := fun h => own_at hlt h hall
      have hst : (clsX i).1 ≠ s → ∀ j, j < i + 1 → (clsX j).1 ≠ s := fun h j hj => by
        by_cases hji : j = i
        · subst hji; exact h
        · exact hall j (by omega)
      have HY := Lib.hid hyes
      have HS := Lib.hid hst
      clear hyes hst hall
      by_cases heq : (clsX i).1 = s
      · rw [decide_eq_true heq] at he
        have HO := Lib.hid (HY.out heq)
        clear heq HY HS
        generalize (clsX i).1 = nm at *
        generalize (clsX i).2.1 = am at *
        by_cases h5 : 5 < i
        · have h5I : (5 : Int) < (i : Int) := by omega
          have HO2 := Lib.hid (show ownC s = some (am, 2) by rw [HO.out, if_pos h5])
          clear HO h5
          go_wp2_with fail
          go_ret2
          exact ⟨.inr ⟨am, 2, HO2.out, by decide, by decide, rfl⟩, hb⟩
        · have h5I : ¬ (5 : Int) < (i : Int) := by omega
          have HO2 := Lib.hid (show ownC s = some (am, 1) by rw [HO.out, if_neg h5])
          clear HO h5
          go_wp2_with fail
          go_ret2
          exact ⟨.inr ⟨am, 1, HO2.out, by decide, by decide, rfl⟩, hb⟩
      · rw [decide_eq_false heq] at he
        have HX := Lib.hid (HS.out heq)
        clear heq HY HS
        generalize (clsX i).1 = nm at *
        generalize (clsX i).2.1 = am at *
        go_wp2_with fail
        go_roundw
        case rel => exact ⟨i + 1, by omega, by go_num, HX.out, by trivial⟩
        case measure => simp [intOf]; omega
    · have hiJ : ¬ (i : Int) < 8 := by omega
      have hi8 : i = 8 := by omega
      have HN := Lib.hid (own_none (s := s) fun j hj => hall j (by omega))
      clear hall hi8
      go_wp2_with fail
      go_ret2
      exact ⟨.inl ⟨HN.out, rfl⟩, hb⟩
end Go.Proofs.YtkgifenidmbdkaaGreatDoor

/- The reference's Find of chapter 19. -/
namespace Go.Proofs.YtkgifenidmbdkaaGreatDoor
open Go.RowKit

theorem find_at {vars : List SVar} {s : ByteArray} {i : Nat} {v : SVar} (hv : vars[i]? = some v) (he : v.1 = s) (hall : ∀ (j : Nat) (x : SVar), j < i → vars[j]? = some x → x.1 ≠ s) : findV vars s = some v.2 := by
  unfold findV
  obtain ⟨hi, rfl⟩ := List.getElem?_eq_some_iff.1 hv
  have : vars.find? (fun v => decide (v.1 = s)) = some vars[i] := by
    rw [List.find?_eq_some_iff_getElem]
    exact ⟨by simpa using he, i, hi, rfl, fun j hj => by simpa using hall j _ hj (List.getElem?_eq_getElem (by omega))⟩
  rw [this]; rfl
theorem find_no {vars : List SVar} {s : ByteArray} (hall : ∀ (j : Nat) (x : SVar), vars[j]? = some x → x.1 ≠ s) : findV vars s = none := by
  unfold findV
  rw [List.find?_eq_none.2 (fun x hx => by
    obtain ⟨j, hj⟩ := List.getElem?_of_mem hx
    simpa using hall j x hj)]
  rfl
set_option maxHeartbeats 3200000 in
set_option maxRecDepth 100000 in
theorem ref19_Find (a : Option Addr) (cap : Nat) (vars : List SVar) (s : ByteArray) (w : World) (hv : VarsSl w a vars) (hl : vars.length ≤ 16777216) :
    Calls Tryz.prog 40 #[.slice a vars.length cap, .string s] w fun e w' => (∃ u, e = .returned (.tuple #[u, .bool (findV vars s).isSome]) ∧ StrsV w' u ((findV vars s).getD [])) ∧ w = w' := by
  obtain ⟨us, h1, h2, h3⟩ := hv
  have H3 := Lib.hid h3
  clear h3
  go_enter Tryz.func40, Tryz.ntmps40
  go_wp2_with fail
  go_loopw [6] (fun x wr => ∃ i : Nat, i ≤ vars.length ∧ x = .int .i64 i ∧ (∀ (j : Nat) (x : SVar), j < i → vars[j]? = some x → x.1 ≠ s) ∧ w = wr) (fun x _ => vars.length - (intOf x).toNat)
  case atStart => exact ⟨0, Nat.zero_le _, rfl, fun j x h => by omega, by trivial⟩
  case round =>
    obtain ⟨i, hil, rfl, hall, rfl⟩ := hrel
    by_cases hlt : i < vars.length
    · have hiI : (i : Int) < (vars.length : Int) := by omega
      obtain ⟨v, hvi⟩ : ∃ v, vars[i]? = some v := ⟨_, List.getElem?_eq_getElem hlt⟩
      obtain ⟨u, hu, hs⟩ := H3.out i v hvi
      obtain ⟨b, off, ha, hbw, d0, d1⟩ := h1 i _ hu
      obtain ⟨ua, un, uc, hue⟩ : ∃ ua un uc, u = .slice ua un uc := by obtain ⟨x, y, e, _⟩ := hs; exact ⟨_, _, _, e⟩
      have hfind := fun he => find_at hvi he hall
      have hst : v.1 ≠ s → ∀ (j : Nat) (x : SVar), j < i + 1 → vars[j]? = some x → x.1 ≠ s := fun h j x hj hx => by
        by_cases hji : j = i
        · subst hji; rw [hvi] at hx; cases hx; exact h
        · exact hall j x (by omega) hx
      have he := str_eqB v.1 s
      have HFI := Lib.hid hfind
      have HST := Lib.hid hst
      have HS := Lib.hid hs
      obtain ⟨vn, vl⟩ := v
      simp only at d0 d1 he
      clear hfind hst hall hvi hu h1 hs
      subst ha
      by_cases heq : vn = s
      · rw [decide_eq_true heq] at he
        have HX := Lib.hid (HFI.out heq)
        clear heq HST HFI
        subst hue
        go_wp2_with fail
        go_ret2
        exact ⟨⟨_, by rw [HX.out]; rfl, by rw [HX.out]; exact HS.out⟩, rfl⟩
      · rw [decide_eq_false heq] at he
        have HX := Lib.hid (HST.out heq)
        clear heq HST HFI
        go_wp2_with fail
        go_roundw
        case rel => exact ⟨i + 1, by omega, by go_num, HX.out, by trivial⟩
        case measure => simp [intOf]; omega
    · obtain rfl : i = vars.length := by omega
      have HX := Lib.hid (find_no (vars := vars) (s := s) fun j x hj => hall j x (List.getElem?_eq_some_iff.1 hj).1 hj)
      clear hall
      go_wp2_with fail
      go_ret2
      exact ⟨⟨_, by rw [HX.out]; rfl, by rw [HX.out]; exact ⟨none, 0, rfl, Nat.le_refl _, fun i s h => by simp at h⟩⟩, rfl⟩
end Go.Proofs.YtkgifenidmbdkaaGreatDoor
