/- subst's matcher: within, alike. -/
import Derived.Test.YtipenfeplampeaaDoorSubstVarsM15
import Derived.Test.YtipenfeplampeaaDoorSubstVarsM10

namespace Go.Proofs.YtipenfeplampeaaDoor
open Go.RowKit

set_option maxHeartbeats 1600000 in
set_option maxRecDepth 100000 in
theorem sub_within (g c : Nat) (among : ByteArray) (fold : Bool) (w : World) (hc : c ≤ 1114111) (hf : w.cell? ⟨g, 2, none⟩ = some (.bool fold)) :
    Calls Tryd.prog 67 #[.pointer (some ⟨g, 0, none⟩), .int .i64 (c : Int), .string among] w fun e w' => e = .returned (.bool (withinB fold among c)) ∧ w = w' := by
  by_cases h : c < 128
  · have hI : (c : Int) < 128 := by omega
    have hw : IntKind.u8.wrap (c : Int) = (c : Int) := IntWalk.u8_in _ (by omega)
    have ht := turn_lt h
    have hw2 : IntKind.u8.wrap ((turnC c : Nat) : Int) = ((turnC c : Nat) : Int) := IntWalk.u8_in _ (by omega)
    have hcall := fun W => Tryd.strings_IndexByte among (c : Int) W
    rw [nat_u8] at hcall
    have hcall2 := fun W => Tryd.strings_IndexByte among ((turnC c : Nat) : Int) W
    rw [nat_u8] at hcall2
    have hix := index_has among (UInt8.ofNat c)
    have hix2 := index_has among (UInt8.ofNat (turnC c))
    have hB : withinB fold among c = (hasB among (UInt8.ofNat c) || (fold && hasB among (UInt8.ofNat (turnC c)))) := by unfold withinB; rw [decide_eq_true h, Bool.true_and]
    have HC := Lib.hid hcall
    have HC2 := Lib.hid hcall2
    have HT := Lib.hid (fun W => sub_turned c hc W)
    clear hcall hcall2 h ht
    generalize Lib.indexByte among.data.toList (UInt8.ofNat c) = ix at *
    generalize Lib.indexByte among.data.toList (UInt8.ofNat (turnC c)) = ix2 at *
    generalize hasB among (UInt8.ofNat c) = b1 at *
    generalize hasB among (UInt8.ofNat (turnC c)) = b2 at *
    generalize turnC c = tc at *
    have HB := Lib.hid hB
    clear hB
    rcases hix with ⟨rfl, h2⟩ | ⟨rfl, h2⟩
    · clear hix2
      have hB := Lib.hid (show withinB fold among c = true by rw [HB.out]; simp)
      go_enter Tryd.func67, Tryd.ntmps67
      go_wp2_with fail
      refine (HC.out _).mono ?_
      rintro e w2 ⟨rfl, rfl⟩
      go_wp2_with fail
      go_ret
      exact ⟨ret_bool (by rw [hB.out]; try first | done | rfl | (simp; done) | (simp; omega)), rfl⟩
    · cases fold with
      | false =>
        clear hix2
        have hB := Lib.hid (show withinB false among c = false by rw [HB.out]; simp)
        go_enter Tryd.func67, Tryd.ntmps67
        go_wp2_with fail
        refine (HC.out _).mono ?_
        rintro e w2 ⟨rfl, rfl⟩
        go_wp2_with fail
        go_ret
        exact ⟨ret_bool (by rw [hB.out]; try first | done | rfl | (simp; done) | (simp; omega)), rfl⟩
      | true =>
        rcases hix2 with ⟨rfl, h3⟩ | ⟨rfl, h3⟩
        · have hB := Lib.hid (show withinB true among c = true by rw [HB.out]; simp)
          go_enter Tryd.func67, Tryd.ntmps67
          go_wp2_with fail
          refine (HC.out _).mono ?_
          rintro e w2 ⟨rfl, rfl⟩
          go_wp2_with fail
          refine (HT.out _).mono ?_
          rintro e w3 ⟨rfl, rfl⟩
          go_wp2_with fail
          refine (HC2.out _).mono ?_
          rintro e w4 ⟨rfl, rfl⟩
          go_wp2_with fail
          go_ret
          exact ⟨ret_bool (by rw [hB.out]; try first | done | rfl | (simp; done) | (simp; omega)), rfl⟩
        · have hB := Lib.hid (show withinB true among c = false by rw [HB.out]; simp)
          go_enter Tryd.func67, Tryd.ntmps67
          go_wp2_with fail
          refine (HC.out _).mono ?_
          rintro e w2 ⟨rfl, rfl⟩
          go_wp2_with fail
          refine (HT.out _).mono ?_
          rintro e w3 ⟨rfl, rfl⟩
          go_wp2_with fail
          refine (HC2.out _).mono ?_
          rintro e w4 ⟨rfl, rfl⟩
          go_wp2_with fail
          go_ret
          exact ⟨ret_bool (by rw [hB.out]; try first | done | rfl | (simp; done) | (simp; omega)), rfl⟩
  · have hI : ¬ (c : Int) < 128 := by omega
    have hB := Lib.hid (show withinB fold among c = false by unfold withinB; rw [decide_eq_false h]; rfl)
    clear h
    go_enter Tryd.func67, Tryd.ntmps67
    go_wp2_with fail
    go_ret
    exact ⟨ret_bool (by rw [hB.out]; try first | done | rfl | (simp; done) | (simp; omega)), rfl⟩
set_option maxHeartbeats 1600000 in
set_option maxRecDepth 100000 in
theorem sub_alike (g p c : Nat) (fold : Bool) (w : World) (hp : p ≤ 1114111) (hf : w.cell? ⟨g, 2, none⟩ = some (.bool fold)) :
    Calls Tryd.prog 75 #[.pointer (some ⟨g, 0, none⟩), .int .i64 (p : Int), .int .i64 (c : Int)] w fun e w' => e = .returned (.bool (alikeB fold p c)) ∧ w = w' := by
  have HT := Lib.hid (fun W => sub_turned p hp W)
  have hB : alikeB fold p c = (decide (p = 63) || (decide (p = c) || (fold && decide (turnC p = c)))) := rfl
  have HB := Lib.hid hB
  have e1 : ((p : Int) == 63) = decide (p = 63) := by rw [Bool.eq_iff_iff]; simp; omega
  have e2 : ((p : Int) == (c : Int)) = decide (p = c) := by rw [Bool.eq_iff_iff]; simp; omega
  have e3 : (((turnC p : Nat) : Int) == (c : Int)) = decide (turnC p = c) := by rw [Bool.eq_iff_iff]; simp; omega
  clear hB
  generalize turnC p = tp at *
  generalize decide (p = 63) = b1 at *
  generalize decide (p = c) = b2 at *
  generalize decide (tp = c) = b3 at *
  cases b1 with
  | true =>
    have hB := Lib.hid (show alikeB fold p c = true by rw [HB.out]; simp)
    clear e2 e3
    go_enter Tryd.func75, Tryd.ntmps75
    go_wp2_with fail
    go_ret
    exact ⟨ret_bool (by rw [hB.out]; try first | done | rfl | (simp; done) | (simp; omega)), rfl⟩
  | false =>
    cases b2 with
    | true =>
      have hB := Lib.hid (show alikeB fold p c = true by rw [HB.out]; simp)
      clear e3
      go_enter Tryd.func75, Tryd.ntmps75
      go_wp2_with fail
      go_ret
      exact ⟨ret_bool (by rw [hB.out]; try first | done | rfl | (simp; done) | (simp; omega)), rfl⟩
    | false =>
      cases fold with
      | false =>
        have hB := Lib.hid (show alikeB false p c = false by rw [HB.out]; simp)
        clear e3
        go_enter Tryd.func75, Tryd.ntmps75
        go_wp2_with fail
        go_ret
        exact ⟨ret_bool (by rw [hB.out]; try first | done | rfl | (simp; done) | (simp; omega)), rfl⟩
      | true =>
        have hB := Lib.hid (show alikeB true p c = b3 by rw [HB.out]; simp)
        go_enter Tryd.func75, Tryd.ntmps75
        go_wp2_with fail
        refine (HT.out _).mono ?_
        rintro e w3 ⟨rfl, rfl⟩
        go_wp2_with fail
        go_ret
        exact ⟨ret_bool (by rw [hB.out]; try first | done | rfl | (simp; done) | (simp; omega)), rfl⟩
end Go.Proofs.YtipenfeplampeaaDoor

/- subst's matcher: advance: one character's step. -/
namespace Go.Proofs.YtipenfeplampeaaDoor
open Go.RowKit

theorem cell_grown {w w' : World} {g : Nat} (h : w.grownBy w' (some g)) {p : Addr} (hp : p.block < w.heap.size) (hne : p.block ≠ g) : w'.cell? p = w.cell? p :=
  World.cell?_of_block (h.block p.block hp (fun e => hne (by injection e)))
theorem pset_many {w : World} {g n i : Nat} {t : TypeId} {f : Bool} {ps : List GPart} {cs : List Nat} {fr : Nat → Bool} {k c j : Nat} (h : w.rowIs g t n (fun m => if m = j then .bool true else boolsF (nP f ps cs fr k c i) m)) (e : ∀ m, nP f ps cs fr k c (i + 1) m = if m = j then true else nP f ps cs fr k c i m) :
    w.rowIs g t n (boolsF (nP f ps cs fr k c (i + 1))) := h.congr fun m _ => by
  show _ = Value.bool _
  rw [e]
  by_cases hm : m = j
  · rw [if_pos hm, if_pos hm]
  · rw [if_neg hm, if_neg hm]; rfl
set_option maxHeartbeats 6400000 in
set_option maxRecDepth 100000 in
theorem sub_advance (g : Nat) (a : Option Addr) (n cap gr c2 c k : Nat) (xs cs : List Nat) (fr : Nat → Bool) (fold : Bool) (w : World) (hn : xs.length = n) (hn2 : n ≤ 16777216) (hg : g < w.heap.size) (hf : w.cell? ⟨g, 2, none⟩ = some (.bool fold)) (hcl : CharsSl w a xs)
    (hrow : w.rowIs gr 4 (n + 1) (boolsF (nS fold (xs.map partOf) cs fr k))) (hxs : ∀ x ∈ xs, x ≤ 1114111) :
    Calls Tryd.prog 64 #[.pointer (some ⟨g, 0, none⟩), .slice a n cap, .slice (some ⟨gr, 0, none⟩) (n + 1) c2, .int .i64 (c : Int)] w fun e w' => ∃ gn, e = .returned (.slice (some ⟨gn, 0, none⟩) (n + 1) (n + 1)) ∧ w'.rowIs gn 4 (n + 1) (boolsF (nP fold (xs.map partOf) cs fr k c n)) ∧ w.heap.size ≤ gn ∧ Below w.heap.size w w' := by
  have hmk := make_bools n hn2
  have HN := Lib.hid hn
  have HX := Lib.hid hxs
  have hgr := hrow.lt
  have hgc := hcl.ne (f := nS fold (xs.map partOf) cs fr k) hrow
  have hrn := World.rowIs_made w (.bool false) (n + 1) 4
  have hra := hrow.alloc (.cells (madeCells #[.bool false] (n + 1)) 4)
  have hst : Below w.heap.size w (w.alloc (.cells (madeCells #[.bool false] (n + 1)) 4)) := (Below.refl _ _).alloc (Nat.le_refl _) _
  have hcl2 := hcl.below hst
  have hf2 := (hst.cell (p := ⟨g, 2, none⟩) hg).trans hf
  clear hn hxs hgc
  go_enter Tryd.func64, Tryd.ntmps64
  go_wp2_with fail
  generalize hw3 : w.alloc (.cells (madeCells #[.bool false] (n + 1)) 4) = w3 at *
  have hb3 : Below w.heap.size w w3 := hst
  generalize hgn : w.heap.size = gn at *
  have hgg : gr ≠ gn := by omega
  have hgg2 : g ≠ gn := by omega
  have hsz3 : gn < w3.heap.size := hrn.lt
  have hne3 := hcl2.ne (f := fun _ => false) hrn
  clear hw3 hst hmk hf hcl hrow
  go_loopw [17] (fun x wi => ∃ i : Nat, i ≤ n ∧ x = .int .i64 i ∧ wi.rowIs gn 4 (n + 1) (boolsF (nP fold (xs.map partOf) cs fr k c i)) ∧ w3.grownBy wi (some gn)) (fun x _ => n - (intOf x).toNat)
  case atStart => exact ⟨0, Nat.zero_le _, rfl, hrn.congr fun j _ => by
    show _ = Value.bool _
    rw [nP_zero], grown_refl _ _⟩
  case round =>
    obtain ⟨i, hin, rfl, hri, hgi⟩ := hrel
    have hgi2 := hgi.size
    by_cases hlti : i < n
    · obtain ⟨x, hx⟩ : ∃ x, xs[i]? = some x := ⟨_, List.getElem?_eq_getElem (by rw [HN.out]; exact hlti)⟩
      have hxm := HX.out x (List.mem_of_getElem? hx)
      have hp : (xs.map partOf)[i]? = some (partOf x) := by rw [List.getElem?_map, hx]; rfl
      obtain ⟨b0, rfl, hb0, h1⟩ := (hcl2.grown hgi hne3) i x hx
      have hrg := rowIs_far hra hgi (by simp; exact hgg)
      have hfi := (cell_grown hgi (p := ⟨g, 2, none⟩) (by show g < _; omega) hgg2).trans hf2
      have cg := hrg.cell (i := i) (by omega)
      have hglt := hrg.lt
      have hgnlt := hri.lt
      have e0 : boolsF (nS fold (xs.map partOf) cs fr k) i = .bool (nS fold (xs.map partOf) cs fr k i) := rfl
      rw [e0] at cg
      have hno := fun h => nP_none (f := fold) (cs := cs) (fr := fr) (i := k) (c := c) hp h
      have hmany := fun h1 h2 h3 => nP_many (f := fold) (cs := cs) (fr := fr) (i := k) (c := c) hp h1 h2 h3
      have hone := fun h1 h2 h3 => nP_one (f := fold) (cs := cs) (fr := fr) (i := k) (c := c) hp h1 h2 h3
      have HNO := Lib.hid hno
      have HMANY := Lib.hid hmany
      have HONE := Lib.hid hone
      have hset := fun j => hri.set j (.bool true)
      have hgs := fun j => only_setCell hgi (p := ⟨gn, j, none⟩) (.inl rfl) (.bool true)
      have hci := hri.cell (i := i) (by omega)
      have hcj := hri.cell (i := i + 1) (by omega)
      have hfz1 := hri.frozen i
      have hfz2 := hri.frozen (i + 1)
      have HSET := Lib.hid hset
      have HGS := Lib.hid hgs
      have HRI := Lib.hid hri
      have HGI := Lib.hid hgi
      clear hno hmany hone hp e0 hset hgs hx hrg hri hgi
      by_cases hy : nS fold (xs.map partOf) cs fr k i = true
      · have HY := Lib.hid hy
        rw [hy] at cg
        clear hy
        by_cases h42 : x = 42
        · subst h42
          go_wp2_with fail
          go_roundw
          case rel => exact ⟨i + 1, by omega, by go_num, pset_many (HSET.out i) (HMANY.out HY.out rfl rfl), HGS.out i⟩
          case measure => simp [intOf]; omega
        · have e42 : ((x : Int) == 42) = false := by rw [beq_eq_false_iff_ne]; omega
          have hal := Lib.hid (alike_stands c fold h42)
          have hmn := Lib.hid (show (partOf x).many = false by rw [many_star, decide_eq_false h42])
          clear h42
          go_wp2_with fail
          refine (sub_alike g x c fold _ hxm hfi).mono ?_
          rintro e w5 ⟨rfl, rfl⟩
          cases hst : alikeB fold x c
          · have HST := Lib.hid (hal.out.trans hst)
            clear hst
            go_wp2_with fail
            go_roundw
            case rel => exact ⟨i + 1, by omega, by go_num, HRI.out.congr fun j _ => by
              show Value.bool _ = Value.bool _
              rw [HNO.out (.inr HST.out)], HGI.out⟩
            case measure => simp [intOf]; omega
          · have HST := Lib.hid (hal.out.trans hst)
            clear hst
            go_wp2_with fail
            go_roundw
            case rel => exact ⟨i + 1, by omega, by go_num, pset_many (HSET.out (i + 1)) (HONE.out HY.out HST.out hmn.out), HGS.out (i + 1)⟩
            case measure => simp [intOf]; omega
      · have hy : nS fold (xs.map partOf) cs fr k i = false := by simpa using hy
        have HY := Lib.hid hy
        rw [hy] at cg
        clear hy
        go_wp2_with fail
        go_roundw
        case rel => exact ⟨i + 1, by omega, by go_num, HRI.out.congr fun j _ => by
          show Value.bool _ = Value.bool _
          rw [HNO.out (.inl HY.out)], HGI.out⟩
        case measure => simp [intOf]; omega
    · obtain rfl : i = n := by omega
      go_wp2_with fail
      go_ret
      exact ⟨gn, rfl, hri, by omega, by rw [hgn]; exact hb3.grown hgi (by omega) (fun j hj => by cases hj; omega)⟩
end Go.Proofs.YtipenfeplampeaaDoor
