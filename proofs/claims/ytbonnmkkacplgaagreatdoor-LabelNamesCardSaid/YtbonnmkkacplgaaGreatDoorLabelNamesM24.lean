/- The reference's encoding of chapter 09: next, written. -/
import Derived.Test.YtbonnmkkacplgaaGreatDoorLabelNamesM22
import Derived.Test.YtbonnmkkacplgaaGreatDoorLabelNamesM9
import Derived.Test.YtbonnmkkacplgaaGreatDoorLabelNamesM16

namespace Go.Proofs.YtbonnmkkacplgaaGreatDoor
open Go.RowKit

theorem digs09_cut (i : Nat) (h : i < 36) : digs09.extract i (i + 1) = ⟨#[digN i]⟩ := by
  have : ∀ i : Fin 36, digs09.extract i.1 (i.1 + 1) = ⟨#[digN i.1]⟩ := by decide +kernel
  exact this ⟨i, h⟩
theorem ba_snoc (l : List UInt8) (b : UInt8) : (⟨l.toArray⟩ : ByteArray) ++ ⟨#[b]⟩ = ⟨(l ++ [b]).toArray⟩ := by
  apply ba_ext
  rw [data_append]
theorem ba_app (l m : List UInt8) : (⟨l.toArray⟩ : ByteArray) ++ ⟨m.toArray⟩ = ⟨(l ++ m).toArray⟩ := by
  apply ba_ext
  rw [data_append]
theorem ba_size (l : List UInt8) : (⟨l.toArray⟩ : ByteArray).size = l.length := by show l.toArray.size = _; simp
/-- The least from a number on; -1: none. -/
def bestS (n b c : Int) : Int := if n ≤ c then if b < 0 then c else if c < b then c else b else b
def bestZ (n : Int) (l : List Int) : Int := l.foldl (bestS n) (-1)
theorem bestZ_snoc (n : Int) (l : List Int) (c : Int) : bestZ n (l ++ [c]) = bestS n (bestZ n l) c := by unfold bestZ; rw [List.foldl_append]; rfl
theorem bestS_lo {n b c : Int} (h : ¬ n ≤ c) : bestS n b c = b := by unfold bestS; rw [if_neg h]
theorem bestS_new {n b c : Int} (h : n ≤ c) (h2 : b < 0) : bestS n b c = c := by unfold bestS; rw [if_pos h, if_pos h2]
theorem bestS_less {n b c : Int} (h : n ≤ c) (h2 : ¬ b < 0) (h3 : c < b) : bestS n b c = c := by unfold bestS; rw [if_pos h, if_neg h2, if_pos h3]
theorem bestS_not {n b c : Int} (h : n ≤ c) (h2 : ¬ b < 0) (h3 : ¬ c < b) : bestS n b c = b := by unfold bestS; rw [if_pos h, if_neg h2, if_neg h3]
theorem bestZ_facts (n : Nat) : ∀ l : List Nat, (bestZ n (l.map fun c : Nat => (c : Int)) = -1 ∧ ∀ x ∈ l, ¬ n ≤ x) ∨ ∃ b : Nat, bestZ n (l.map fun c : Nat => (c : Int)) = b ∧ b ∈ l ∧ n ≤ b ∧ ∀ x ∈ l, n ≤ x → b ≤ x := by
  suffices H : ∀ k (l : List Nat), l.length = k → (bestZ n (l.map fun c : Nat => (c : Int)) = -1 ∧ ∀ x ∈ l, ¬ n ≤ x) ∨ ∃ b : Nat, bestZ n (l.map fun c : Nat => (c : Int)) = b ∧ b ∈ l ∧ n ≤ b ∧ ∀ x ∈ l, n ≤ x → b ≤ x from fun l => H _ l rfl
  intro k
  induction k with
  | zero =>
    intro l hl
    obtain rfl := List.eq_nil_of_length_eq_zero hl
    exact .inl ⟨rfl, fun x hx => by cases hx⟩
  | succ k ih =>
    intro l hl
    obtain ⟨m, c, rfl⟩ : ∃ m c, l = m ++ [c] := ⟨l.dropLast, l.getLast (by intro e; subst e; simp at hl), (List.dropLast_concat_getLast _).symm⟩
    have hm : m.length = k := by simpa using hl
    rw [List.map_append, List.map_singleton, bestZ_snoc]
    have hmem : ∀ x, x ∈ m ++ [c] ↔ x ∈ m ∨ x = c := fun x => by simp
    rcases ih m hm with ⟨e, h⟩ | ⟨b, e, h1, h2, h3⟩
    · rw [e]
      by_cases hn : n ≤ c
      · rw [bestS_new (by omega) (by omega)]
        refine .inr ⟨c, rfl, by simp, hn, fun x hx hnx => ?_⟩
        rcases (hmem x).1 hx with hx | rfl
        · exact absurd hnx (h x hx)
        · exact Nat.le_refl _
      · rw [bestS_lo (by omega)]
        refine .inl ⟨rfl, fun x hx => ?_⟩
        rcases (hmem x).1 hx with hx | rfl
        · exact h x hx
        · exact hn
    · rw [e]
      by_cases hn : n ≤ c
      · by_cases hlt : c < b
        · rw [bestS_less (by omega) (by omega) (by omega)]
          refine .inr ⟨c, rfl, by simp, hn, fun x hx hnx => ?_⟩
          rcases (hmem x).1 hx with hx | rfl
          · exact Nat.le_trans (Nat.le_of_lt hlt) (h3 x hx hnx)
          · exact Nat.le_refl _
        · rw [bestS_not (by omega) (by omega) (by omega)]
          refine .inr ⟨b, rfl, by simp [h1], h2, fun x hx hnx => ?_⟩
          rcases (hmem x).1 hx with hx | rfl
          · exact h3 x hx hnx
          · omega
      · rw [bestS_lo (by omega)]
        refine .inr ⟨b, rfl, by simp [h1], h2, fun x hx hnx => ?_⟩
        rcases (hmem x).1 hx with hx | rfl
        · exact h3 x hx hnx
        · exact absurd hnx hn
/-- The head of what is left; -1: nothing. -/
def headZ : List Nat → Int
  | [] => -1
  | m :: _ => m
theorem best_head {cs ms : List Nat} {n : Nat} {zs : List Int} (hz : zs = cs.map fun c : Nat => (c : Int)) (hp : ms.Pairwise (· < ·)) (hm : ∀ x, x ∈ ms ↔ x ∈ cs ∧ n ≤ x) : bestZ n zs = headZ ms := by
  subst hz
  rcases bestZ_facts n cs with ⟨e, h⟩ | ⟨b, e, h1, h2, h3⟩
  · rw [e]
    cases ms with
    | nil => rfl
    | cons m ms => exact absurd ((hm m).1 (by simp)).2 (h m ((hm m).1 (by simp)).1)
  · rw [e]
    have hb := (hm b).2 ⟨h1, h2⟩
    cases ms with
    | nil => cases hb
    | cons m ms =>
      have hm' := (hm m).1 (by simp)
      have := h3 m hm'.1 hm'.2
      rcases List.mem_cons.1 hb with rfl | hb
      · rfl
      · have := (List.pairwise_cons.1 hp).1 b hb
        omega

set_option maxHeartbeats 1600000 in
set_option maxRecDepth 100000 in
theorem ref09_next (x : Value) (zs : List Int) (n : Nat) (w : World) (hx : IntsSl w x zs) (hl : zs.length ≤ 1000) : Calls Tryz.prog 71 #[x, .int .i64 (n : Int)] w fun e w' => e = .returned (.int .i64 (bestZ n zs)) ∧ ∃ q, w.drewN q = w' := by
  rcases hx with ⟨rfl, a, cap, rfl⟩ | ⟨b, off, cap, rfl, hc, hcm, hbs, hp⟩
  · go_enter Tryz.func71, Tryz.ntmps71
    go_wp2_with fail
    refine wp_loop_rounds 1 ?_
    rw [rounds_succ]
    go_wp2_with fail
    go_ret
    exact ⟨rfl, 0, rfl⟩
  · have HP := Lib.hid hp
    unfold maxLen at hcm
    have hall : bestZ n (zs.take zs.length) = bestZ n zs := by rw [List.take_length]
    have HALL := Lib.hid hall
    clear hp hall
    go_enter Tryz.func71, Tryz.ntmps71
    go_wp2_with fail
    go_loopw [5, 6] (fun u v wr => ∃ i q : Nat, i ≤ zs.length ∧ v = .int .i64 i ∧ u = .int .i64 (bestZ n (zs.take i)) ∧ w.drewN q = wr) (fun _ v _ => zs.length - (intOf v).toNat)
    case atStart => exact ⟨0, 0, Nat.zero_le _, rfl, rfl, rfl⟩
    case round =>
      obtain ⟨i, q, hil, rfl, rfl, hwr⟩ := hrel
      by_cases hlt : i < zs.length
      · have hcell : wr.cell? ⟨b, off + i, none⟩ = some (.int .i64 (zs.getD i 0)) := ((show Below w.heap.size w wr by rw [← hwr]; exact below_drewN (Below.refl _ _) q).cell (p := ⟨b, off + i, none⟩) hbs).trans (HP.out i hlt)
        have hst : bestZ n (zs.take (i + 1)) = bestS n (bestZ n (zs.take i)) (zs.getD i 0) := by
          rw [List.take_succ_eq_append_getElem hlt, bestZ_snoc]
          simp [List.getD, hlt]
        have HW := Lib.hid hwr
        generalize bestZ n (zs.take i) = B at *
        generalize zs.getD i 0 = c at *
        have HST := Lib.hid hst
        clear hwr hst
        have hiI : (i : Int) < (zs.length : Int) := by omega
        by_cases h1 : (n : Int) ≤ c
        · have h1I : c ≥ (n : Int) := h1
          by_cases h2 : B < 0
          · have HB := Lib.hid (bestS_new h1 h2)
            clear h1
            go_wp2_with fail
            go_roundw
            case rel => exact ⟨i + 1, _, by omega, by go_num, by rw [HST.out, HB.out], by first | exact HW.out | rw [← HW.out, World.drewN_drewN]⟩
            case measure => simp [intOf]; omega
          · by_cases h3 : c < B
            · have HB := Lib.hid (bestS_less h1 h2 h3)
              clear h1
              go_wp2_with fail
              go_roundw
              case rel => exact ⟨i + 1, _, by omega, by go_num, by rw [HST.out, HB.out], by first | exact HW.out | rw [← HW.out, World.drewN_drewN]⟩
              case measure => simp [intOf]; omega
            · have HB := Lib.hid (bestS_not h1 h2 h3)
              clear h1
              go_wp2_with fail
              go_roundw
              case rel => exact ⟨i + 1, _, by omega, by go_num, by rw [HST.out, HB.out], by first | exact HW.out | rw [← HW.out, World.drewN_drewN]⟩
              case measure => simp [intOf]; omega
        · have h1I : ¬ c ≥ (n : Int) := h1
          have HB := Lib.hid (bestS_lo (b := B) h1)
          clear h1
          go_wp2_with fail
          go_roundw
          case rel => exact ⟨i + 1, _, by omega, by go_num, by rw [HST.out, HB.out], by first | exact HW.out | rw [← HW.out, World.drewN_drewN]⟩
          case measure => simp [intOf]; omega
      · obtain rfl : i = zs.length := by omega
        have HW := Lib.hid hwr
        clear hwr
        have hiI : ¬ (zs.length : Int) < (zs.length : Int) := by omega
        go_wp2_with fail
        go_ret
        exact ⟨rfl, _, HW.out⟩
set_option maxHeartbeats 3200000 in
set_option maxRecDepth 100000 in
theorem ref09_written (n bias : Nat) (w : World) (hn : n < 1000000000) (hb : bias ≤ 1000000000000) :
    Calls Tryz.prog 72 #[.int .i64 (n : Int), .int .i64 (bias : Int)] w fun e w' => e = .returned (.string ⟨(numD n bias).toArray⟩) ∧ ∃ q, w.drewN q = w' := by
  have hlen2 := numD_len (b := bias) hn
  have HD := Lib.hid (show numD n bias = numL n n 36 bias from rfl)
  generalize numD n bias = D at *
  go_enter Tryz.func72, Tryz.ntmps72
  go_wp2_with fail
  go_loopw [0, 5, 6] (fun x s y wr => ∃ (f m k q : Nat) (acc : List UInt8), x = .int .i64 m ∧ s = .string ⟨acc.toArray⟩ ∧ y = .int .i64 k ∧ m ≤ f ∧ m ≤ n ∧ k = 36 * (acc.length + 1) ∧ acc ++ numL f m k bias = D ∧ w.drewN q = wr) (fun x _ _ _ => (intOf x).toNat)
  case atStart => exact ⟨n, n, 36, 0, [], rfl, rfl, rfl, Nat.le_refl _, Nat.le_refl _, rfl, HD.out.symm, rfl⟩
  case round =>
    obtain ⟨f, m, k, q, acc, rfl, rfl, rfl, hmf, hmn, hk, hacc, hwr⟩ := hrel
    have hal : acc.length ≤ 10 := by
      have := congrArg List.length hacc
      rw [List.length_append] at this
      omega
    have hk2 : k ≤ 1000000 := by omega
    have cT := Lib.hid (ref09_threshold k bias wr hk2 hb)
    have ht := thrN_range k bias
    have HW := Lib.hid hwr
    have HK := Lib.hid hk
    have hsz := ba_size acc
    clear hk hwr
    by_cases hlt : m < thrN k bias
    · rw [numL_last hlt] at hacc
      have HA := Lib.hid hacc
      generalize thrN k bias = t at *
      have hltI : (m : Int) < (t : Int) := by omega
      have HC := Lib.hid (digs09_cut m (by omega))
      have hds : digs09.size = 36 := by decide
      clear hacc hlt
      go_wp2_with fail
      refine cT.out.mono ?_
      rintro e w2 ⟨rfl, rfl⟩
      go_wp2_with fail
      go_ret
      exact ⟨ret_str (by rw [← HA.out, ← ba_snoc, ← HC.out]; rfl), _, HW.out⟩
    · obtain ⟨f', rfl⟩ : ∃ f', f = f' + 1 := ⟨f - 1, by omega⟩
      have hless := num_less hlt
      rw [numL_more hlt] at hacc
      obtain ⟨e1, e2⟩ := sub_div_int (m := m) (t := thrN k bias) (by omega) ht.2
      have hmod : (m - thrN k bias) % (36 - thrN k bias) < 36 - thrN k bias := Nat.mod_lt _ (by omega)
      generalize thrN k bias = t at *
      have hdg : t + (m - t) % (36 - t) < 36 := by omega
      have hltI : ¬ (m : Int) < (t : Int) := by omega
      generalize (m - t) / (36 - t) = q1 at *
      have HA := Lib.hid hacc
      have HC := Lib.hid (digs09_cut (t + (m - t) % (36 - t)) hdg)
      have hX0 : 0 ≤ ((m : Int) - (t : Int)) % (36 - (t : Int)) := by rw [← e2]; omega
      have hX1 : ((m : Int) - (t : Int)) % (36 - (t : Int)) ≤ 35 - (t : Int) := by rw [← e2]; omega
      have hY0 : 0 ≤ ((m : Int) - (t : Int)) / (36 - (t : Int)) := by rw [← e1]; omega
      have hY1 : ((m : Int) - (t : Int)) / (36 - (t : Int)) ≤ (m : Int) := by rw [← e1]; omega
      have HE1 := Lib.hid e1
      clear hacc hlt e1 e2
      go_wp2_with fail
      refine cT.out.mono ?_
      rintro e w2 ⟨rfl, rfl⟩
      go_wp2_with fail
      go_roundw
      case rel => exact ⟨f', q1, k + 36, _, acc ++ [digN (t + (m - t) % (36 - t))], by rw [HE1.out], by rw [← ba_snoc, ← HC.out]; rfl, by simp, by omega, by omega, by have := HK.out; simp; omega, by rw [List.append_assoc]; exact HA.out, by first | exact HW.out | rw [← HW.out, World.drewN_drewN]⟩
      case measure => simp only [intOf]; rw [← HE1.out]; omega
end Go.Proofs.YtbonnmkkacplgaaGreatDoor
