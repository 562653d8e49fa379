/- The reference's encoding of chapter 09: next, written. -/
import Derived.Test.YtakcfgmibijdnaaDoorPunyWritesM7
import Derived.Test.YtakcfgmibijdnaaDoorPunyWritesM8
import Derived.Test.YtakcfgmibijdnaaDoorPunyWritesM5
import Derived.Laws.BytesArg

namespace Go.Proofs.YtakcfgmibijdnaaDoor
open Go.RowKit

theorem digs09_cut (i : Nat) (h : i < 36) : digs09.extract i (i + 1) = ⟨#[digN i]⟩ := by
  have : ∀ i : Fin 36, digs09.extract i.1 (i.1 + 1) = ⟨#[digN i.1]⟩ := by decide +kernel
  exact this ⟨i, h⟩
theorem ba_snoc (l : List UInt8) (b : UInt8) : (⟨l.toArray⟩ : ByteArray) ++ ⟨#[b]⟩ = ⟨(l ++ [b]).toArray⟩ := by
  apply ba_ext
  rw [data_append]
theorem ba_app (l m : List UInt8) : (⟨l.toArray⟩ : ByteArray) ++ ⟨m.toArray⟩ = ⟨(l ++ m).toArray⟩ := by
  apply ba_ext
  rw [data_append]
theorem ba_size (l : List UInt8) : (⟨l.toArray⟩ : ByteArray).size = l.length := by show l.toArray.size = _; simp
/-- The least from a number on; -1: none. -/
def bestS (n b c : Int) : Int := if n ≤ c then if b < 0 then c else if c < b then c else b else b
def bestZ (n : Int) (l : List Int) : Int := l.foldl (bestS n) (-1)
theorem bestZ_snoc (n : Int) (l : List Int) (c : Int) : bestZ n (l ++ [c]) = bestS n (bestZ n l) c := by unfold bestZ; rw [List.foldl_append]; rfl
theorem bestS_lo {n b c : Int} (h : ¬ n ≤ c) : bestS n b c = b := by unfold bestS; rw [if_neg h]
theorem bestS_new {n b c : Int} (h : n ≤ c) (h2 : b < 0) : bestS n b c = c := by unfold bestS; rw [if_pos h, if_pos h2]
theorem bestS_less {n b c : Int} (h : n ≤ c) (h2 : ¬ b < 0) (h3 : c < b) : bestS n b c = c := by unfold bestS; rw [if_pos h, if_neg h2, if_pos h3]
theorem bestS_not {n b c : Int} (h : n ≤ c) (h2 : ¬ b < 0) (h3 : ¬ c < b) : bestS n b c = b := by unfold bestS; rw [if_pos h, if_neg h2, if_neg h3]
theorem bestZ_facts (n : Nat) : ∀ l : List Nat, (bestZ n (l.map fun c : Nat => (c : Int)) = -1 ∧ ∀ x ∈ l, ¬ n ≤ x) ∨ ∃ b : Nat, bestZ n (l.map fun c : Nat => (c : Int)) = b ∧ b ∈ l ∧ n ≤ b ∧ ∀ x ∈ l, n ≤ x → b ≤ x := by
  suffices H : ∀ k (l : List Nat), l.length = k → (bestZ n (l.map fun c : Nat => (c : Int)) = -1 ∧ ∀ x ∈ l, ¬ n ≤ x) ∨ ∃ b : Nat, bestZ n (l.map fun c : Nat => (c : Int)) = b ∧ b ∈ l ∧ n ≤ b ∧ ∀ x ∈ l, n ≤ x → b ≤ x from fun l => H _ l rfl
  intro k
  induction k with
  | zero =>
    intro l hl
    obtain rfl := List.eq_nil_of_length_eq_zero hl
    exact .inl ⟨rfl, fun x hx => by cases hx⟩
  | succ k ih =>
    intro l hl
    obtain ⟨m, c, rfl⟩ : ∃ m c, l = m ++ [c] := ⟨l.dropLast, l.getLast (by intro e; subst e; simp at hl), (List.dropLast_concat_getLast _).symm⟩
    have hm : m.length = k := by simpa using hl
    rw [List.map_append, List.map_singleton, bestZ_snoc]
    have hmem : ∀ x, x ∈ m ++ [c] ↔ x ∈ m ∨ x = c := fun x => by simp
    rcases ih m hm with ⟨e, h⟩ | ⟨b, e, h1, h2, h3⟩
    · rw [e]
      by_cases hn : n ≤ c
      · rw [bestS_new (by omega) (by omega)]
        refine .inr ⟨c, rfl, by simp, hn, fun x hx hnx => ?_⟩
        rcases (hmem x).1 hx with hx | rfl
        · exact absurd hnx (h x hx)
        · exact Nat.le_refl _
      · rw [bestS_lo (by omega)]
        refine .inl ⟨rfl, fun x hx => ?_⟩
        rcases (hmem x).1 hx with hx | rfl
        · exact h x hx
        · exact hn
    · rw [e]
      by_cases hn : n ≤ c
      · by_cases hlt : c < b
        · rw [bestS_less (by omega) (by omega) (by omega)]
          refine .inr ⟨c, rfl, by simp, hn, fun x hx hnx => ?_⟩
          rcases (hmem x).1 hx with hx | rfl
          · exact Nat.le_trans (Nat.le_of_lt hlt) (h3 x hx hnx)
          · exact Nat.le_refl _
        · rw [bestS_not (by omega) (by omega) (by omega)]
          refine .inr ⟨b, rfl, by simp [h1], h2, fun x hx hnx => ?_⟩
          rcases (hmem x).1 hx with hx | rfl
          · exact h3 x hx hnx
          · omega
      · rw [bestS_lo (by omega)]
        refine .inr ⟨b, rfl, by simp [h1], h2, fun x hx hnx => ?_⟩
        rcases (hmem x).1 hx with hx | rfl
        · exact h3 x hx hnx
        · exact absurd hnx hn
/-- The head of what is left; -1: nothing. -/
def headZ : List Nat → Int
  | [] => -1
  | m :: _ => m
theorem best_head {cs ms : List Nat} {n : Nat} {zs : List Int} (hz : zs = cs.map fun c : Nat => (c : Int)) (hp : ms.Pairwise (· < ·)) (hm : ∀ x, x ∈ ms ↔ x ∈ cs ∧ n ≤ x) : bestZ n zs = headZ ms := by
  subst hz
  rcases bestZ_facts n cs with ⟨e, h⟩ | ⟨b, e, h1, h2, h3⟩
  · rw [e]
    cases ms with
    | nil => rfl
    | cons m ms => exact absurd ((hm m).1 (by simp)).2 (h m ((hm m).1 (by simp)).1)
  · rw [e]
    have hb := (hm b).2 ⟨h1, h2⟩
    cases ms with
    | nil => cases hb
    | cons m ms =>
      have hm' := (hm m).1 (by simp)
      have := h3 m hm'.1 hm'.2
      rcases List.mem_cons.1 hb with rfl | hb
      · rfl
      · have := (List.pairwise_cons.1 hp).1 b hb
        omega

set_option maxHeartbeats 1600000 in
set_option maxRecDepth 100000 in
theorem ref09_next (x : Value) (zs : List Int) (n : Nat) (w : World) (hx : IntsSl w x zs) (hl : zs.length ≤ 1000) : Calls Tryd.prog 68 #[x, .int .i64 (n : Int)] w fun e w' => e = .returned (.int .i64 (bestZ n zs)) ∧ ∃ q, w.drewN q = w' := by
  rcases hx with ⟨rfl, a, cap, rfl⟩ | ⟨b, off, cap, rfl, hc, hcm, hbs, hp⟩
  · go_enter Tryd.func68, Tryd.ntmps68
    go_wp2_with fail
    refine wp_loop_rounds 1 ?_
    rw [rounds_succ]
    go_wp2_with fail
    go_ret
    exact ⟨rfl, 0, rfl⟩
  · have HP := Lib.hid hp
    unfold maxLen at hcm
    have hall : bestZ n (zs.take zs.length) = bestZ n zs := by rw [List.take_length]
    have HALL := Lib.hid hall
    clear hp hall
    go_enter Tryd.func68, Tryd.ntmps68
    go_wp2_with fail
    go_loopw [5, 6] (fun u v wr => ∃ i q : Nat, i ≤ zs.length ∧ v = .int .i64 i ∧ u = .int .i64 (bestZ n (zs.take i)) ∧ w.drewN q = wr) (fun _ v _ => zs.length - (intOf v).toNat)
    case atStart => exact ⟨0, 0, Nat.zero_le _, rfl, rfl, rfl⟩
    case round =>
      obtain ⟨i, q, hil, rfl, rfl, hwr⟩ := hrel
      by_cases hlt : i < zs.length
      · have hcell : wr.cell? ⟨b, off + i, none⟩ = some (.int .i64 (zs.getD i 0)) := ((show Below w.heap.size w wr by rw [← hwr]; exact below_drewN (Below.refl _ _) q).cell (p := ⟨b, off + i, none⟩) hbs).trans (HP.out i hlt)
        have hst : bestZ n (zs.take (i + 1)) = bestS n (bestZ n (zs.take i)) (zs.getD i 0) := by
          rw [List.take_succ_eq_append_getElem hlt, bestZ_snoc]
          simp [List.getD, hlt]
        have HW := Lib.hid hwr
        generalize bestZ n (zs.take i) = B at *
        generalize zs.getD i 0 = c at *
        have HST := Lib.hid hst
        clear hwr hst
        have hiI : (i : Int) < (zs.length : Int) := by omega
        by_cases h1 : (n : Int) ≤ c
        · have h1I : c ≥ (n : Int) := h1
          by_cases h2 : B < 0
          · have HB := Lib.hid (bestS_new h1 h2)
            clear h1
            go_wp2_with fail
            go_roundw
            case rel => exact ⟨i + 1, _, by omega, by go_num, by rw [HST.out, HB.out], by first | exact HW.out | rw [← HW.out, World.drewN_drewN]⟩
            case measure => simp [intOf]; omega
          · by_cases h3 : c < B
            · have HB := Lib.hid (bestS_less h1 h2 h3)
              clear h1
              go_wp2_with fail
              go_roundw
              case rel => exact ⟨i + 1, _, by omega, by go_num, by rw [HST.out, HB.out], by first | exact HW.out | rw [← HW.out, World.drewN_drewN]⟩
              case measure => simp [intOf]; omega
            · have HB := Lib.hid (bestS_not h1 h2 h3)
              clear h1
              go_wp2_with fail
              go_roundw
              case rel => exact ⟨i + 1, _, by omega, by go_num, by rw [HST.out, HB.out], by first | exact HW.out | rw [← HW.out, World.drewN_drewN]⟩
              case measure => simp [intOf]; omega
        · have h1I : ¬ c ≥ (n : Int) := h1
          have HB := Lib.hid (bestS_lo (b := B) h1)
          clear h1
          go_wp2_with fail
          go_roundw
          case rel => exact ⟨i + 1, _, by omega, by go_num, by rw [HST.out, HB.out], by first | exact HW.out | rw [← HW.out, World.drewN_drewN]⟩
          case measure => simp [intOf]; omega
      · obtain rfl : i = zs.length := by omega
        have HW := Lib.hid hwr
        clear hwr
        have hiI : ¬ (zs.length : Int) < (zs.length : Int) := by omega
        go_wp2_with fail
        go_ret
        exact ⟨rfl, _, HW.out⟩
set_option maxHeartbeats 3200000 in
set_option maxRecDepth 100000 in
theorem ref09_written (n bias : Nat) (w : World) (hn : n < 1000000000) (hb : bias ≤ 1000000000000) :
    Calls Tryd.prog 69 #[.int .i64 (n : Int), .int .i64 (bias : Int)] w fun e w' => e = .returned (.string ⟨(numD n bias).toArray⟩) ∧ ∃ q, w.drewN q = w' := by
  have hlen2 := numD_len (b := bias) hn
  have HD := Lib.hid (show numD n bias = numL n n 36 bias from rfl)
  generalize numD n bias = D at *
  go_enter Tryd.func69, Tryd.ntmps69
  go_wp2_with fail
  go_loopw [0, 5, 6] (fun x s y wr => ∃ (f m k q : Nat) (acc : List UInt8), x = .int .i64 m ∧ s = .string ⟨acc.toArray⟩ ∧ y = .int .i64 k ∧ m ≤ f ∧ m ≤ n ∧ k = 36 * (acc.length + 1) ∧ acc ++ numL f m k bias = D ∧ w.drewN q = wr) (fun x _ _ _ => (intOf x).toNat)
  case atStart => exact ⟨n, n, 36, 0, [], rfl, rfl, rfl, Nat.le_refl _, Nat.le_refl _, rfl, HD.out.symm, rfl⟩
  case round =>
    obtain ⟨f, m, k, q, acc, rfl, rfl, rfl, hmf, hmn, hk, hacc, hwr⟩ := hrel
    have hal : acc.length ≤ 10 := by
      have := congrArg List.length hacc
      rw [List.length_append] at this
      omega
    have hk2 : k ≤ 1000000 := by omega
    have cT := Lib.hid (ref09_threshold k bias wr hk2 hb)
    have ht := thrN_range k bias
    have HW := Lib.hid hwr
    have HK := Lib.hid hk
    have hsz := ba_size acc
    clear hk hwr
    by_cases hlt : m < thrN k bias
    · rw [numL_last hlt] at hacc
      have HA := Lib.hid hacc
      generalize thrN k bias = t at *
      have hltI : (m : Int) < (t : Int) := by omega
      have HC := Lib.hid (digs09_cut m (by omega))
      have hds : digs09.size = 36 := by decide
      clear hacc hlt
      go_wp2_with fail
      refine cT.out.mono ?_
      rintro e w2 ⟨rfl, rfl⟩
      go_wp2_with fail
      go_ret
      exact ⟨ret_str (by rw [← HA.out, ← ba_snoc, ← HC.out]; rfl), _, HW.out⟩
    · obtain ⟨f', rfl⟩ : ∃ f', f = f' + 1 := ⟨f - 1, by omega⟩
      have hless := num_less hlt
      rw [numL_more hlt] at hacc
      obtain ⟨e1, e2⟩ := sub_div_int (m := m) (t := thrN k bias) (by omega) ht.2
      have hmod : (m - thrN k bias) % (36 - thrN k bias) < 36 - thrN k bias := Nat.mod_lt _ (by omega)
      generalize thrN k bias = t at *
      have hdg : t + (m - t) % (36 - t) < 36 := by omega
      have hltI : ¬ (m : Int) < (t : Int) := by omega
      generalize (m - t) / (36 - t) = q1 at *
      have HA := Lib.hid hacc
      have HC := Lib.hid (digs09_cut (t + (m - t) % (36 - t)) hdg)
      have hX0 : 0 ≤ ((m : Int) - (t : Int)) % (36 - (t : Int)) := by rw [← e2]; omega
      have hX1 : ((m : Int) - (t : Int)) % (36 - (t : Int)) ≤ 35 - (t : Int) := by rw [← e2]; omega
      have hY0 : 0 ≤ ((m : Int) - (t : Int)) / (36 - (t : Int)) := by rw [← e1]; omega
      have hY1 : ((m : Int) - (t : Int)) / (36 - (t : Int)) ≤ (m : Int) := by rw [← e1]; omega
      have HE1 := Lib.hid e1
      clear hacc hlt e1 e2
      go_wp2_with fail
      refine cT.out.mono ?_
      rintro e w2 ⟨rfl, rfl⟩
      go_wp2_with fail
      go_roundw
      case rel => exact ⟨f', q1, k + 36, _, acc ++ [digN (t + (m - t) % (36 - t))], by rw [HE1.out], by rw [← ba_snoc, ← HC.out]; rfl, by simp, by omega, by omega, by have := HK.out; simp; omega, by rw [List.append_assoc]; exact HA.out, by first | exact HW.out | rw [← HW.out, World.drewN_drewN]⟩
      case measure => simp only [intOf]; rw [← HE1.out]; omega
end Go.Proofs.YtakcfgmibijdnaaDoor

/- puny.Encode, of any numbers; the example of chapter 9's statements. -/
namespace Go.Proofs.YtakcfgmibijdnaaDoor
open Go.RowKit

theorem enc_nil : encE [] = .ok [] := rfl
set_option maxHeartbeats 3200000 in
set_option maxRecDepth 100000 in
theorem puny_Encode0 (a : Option Addr) (cap : Nat) (w : World) : Calls Tryd.prog 28 #[.slice a 0 cap] w (EncPost [] w) := by
  have hbl : Bld (w.alloc (.cells #[.pointer none, .slice none 0 0] 120)) (w.heap.size + 1) w.heap.size [] := Bld.new rfl (heap_alloc_new w _) (by omega)
  have hst : Below w.heap.size w (w.alloc (.cells #[.pointer none, .slice none 0 0] 120)) := (Below.refl _ _).alloc (Nat.le_refl _) _
  have hszA : (w.alloc (.cells #[.pointer none, .slice none 0 0] 120)).heap.size = w.heap.size + 1 := World.size_alloc _ _
  have cL' : ∀ W, W = (w.alloc (.cells #[.pointer none, .slice none 0 0] 120)) → Calls Tryd.prog 61 #[.pointer (some ⟨w.heap.size, 0, none⟩)] W fun e w' => e = .returned (.int .i64 0) ∧ w' = W := fun W h => by subst h; exact bld_Len _ _ _ _ hbl
  have cL := Lib.hid (cL' _ rfl)
  have cC' : ∀ W, Calls Tryd.prog 62 #[.slice a 0 cap] W fun e w' => ∃ v c, e = .returned (.slice v 0 c) ∧ Below W.heap.size W w' := by
    intro W
    cases a with
    | none =>
      refine (Tryd.slices_Clone_int_nil 0 cap W).mono ?_
      rintro e w' ⟨he, rfl⟩
      exact ⟨none, 0, he, Below.refl _ _⟩
    | some ad =>
      refine (Tryd.slices_Clone_int_zero ad cap W).mono ?_
      rintro e w' ⟨v, he, hown, _, hb⟩
      obtain ⟨q, c, rfl⟩ : ∃ q c, v = .slice q 0 c := by
        rcases hown.2 with ⟨e0, _⟩ | ⟨g, cp, cur, e0, _⟩
        · exact ⟨none, 0, e0⟩
        · exact ⟨_, cp, e0⟩
      exact ⟨q, c, he, hb⟩
  have cC := Lib.hid cC'
  clear cC'
  have HBL := Lib.hid hbl
  have HST := Lib.hid hst
  clear cL' hbl hst
  go_enter Tryd.func28, Tryd.ntmps28
  go_wp2_with fail
  go_loopw [23] (fun i wr => i = .int .i64 0 ∧ (w.alloc (.cells #[.pointer none, .slice none 0 0] 120)) = wr) (fun _ _ => 0)
  case atStart => exact ⟨rfl, rfl⟩
  case round =>
    obtain ⟨rfl, rfl⟩ := hrel
    go_wp2_with fail
    refine cL.out.mono ?_
    rintro e w2 ⟨rfl, rfl⟩
    go_wp2_with fail
    refine (cC.out _).mono ?_
    rintro e w3 ⟨v, c, rfl, hb3⟩
    have HB3 := Lib.hid hb3
    clear hb3
    go_wp2_with fail
    refine (Tryd.slices_Sort_int_none v c w3).mono ?_
    rintro e w4 ⟨rfl, hw4⟩
    obtain rfl := hw4.symm
    go_wp2_with fail
    refine (Tryd.slices_Compact_int_empty v c w3).mono ?_
    rintro e w4 ⟨rfl, hw5⟩
    obtain rfl := hw5.symm
    go_wp2_with fail
    go_loopw [9, 10, 11, 12, 51] (fun _ _ _ _ i wr => i = .int .i64 0 ∧ w3 = wr) (fun _ _ _ _ _ _ => 0)
    case atStart => exact ⟨rfl, rfl⟩
    case round =>
      obtain ⟨rfl, rfl⟩ := hrel
      have hb := HST.out.trans (HB3.out.mono (by omega))
      have hsz := HB3.out.size
      have cT := Lib.hid (bld_String _ _ _ _ (HBL.out.below HB3.out) (by omega))
      have HB := Lib.hid hb
      clear hb
      go_wp2_with fail
      refine cT.out.mono ?_
      rintro e w8 ⟨rfl, hb8⟩
      have hbE := HB.out.trans hb8
      go_wp2_with fail
      go_ret2
      exact ⟨hbE, .inr ⟨[], enc_nil, rfl⟩⟩
theorem puny_Encode (x : Value) (zs : List Int) (w : World) (hx : IntsSl w x zs) (hz : zs.length ≤ 9223372036854775807) : Calls Tryd.prog 28 #[x] w (EncPost zs w) := by
  by_cases h0 : zs = []
  · subst h0
    obtain ⟨a, cap, rfl⟩ : ∃ a cap, x = .slice a 0 cap := by
      rcases hx with ⟨_, a, cap, e⟩ | ⟨b, off, cap, e, _⟩
      · exact ⟨a, cap, e⟩
      · exact ⟨_, _, e⟩
    exact puny_Encode0 a cap w
  · have hne : 0 < zs.length := by cases zs with | nil => exact absurd rfl h0 | cons _ _ => simp
    rcases hx with ⟨h, _⟩ | ⟨b, off, cap, rfl, hcap, hcm, hbw, hcell⟩
    · exact absurd h h0
    · by_cases hlong : 256 < zs.length
      · have HE := Lib.hid (encE_long hlong)
        have hlI : (zs.length : Int) > 256 := by omega
        clear hcell hlong
        go_enter Tryd.func28, Tryd.ntmps28
        go_wp2_with fail
        refine (api_Fail' 14 256 _).mono ?_
        rintro e w2 ⟨v, rfl, hv, hb⟩
        go_wp2_with fail
        go_ret2
        exact ⟨hb, .inl ⟨14, 256, v, HE.out, by decide, rfl, hv⟩⟩
      · exact puny_Encode1 b off cap zs w hne (by omega) hcap hcm hbw hcell
/-! ### The example -/
theorem ints_lit (w : World) (l : List Int) (n : Nat) (cs : Array Value) (h : cs = (l.map (Value.int .i64)).toArray) (hn : n = l.length) (hl : 0 < l.length) (hm : l.length ≤ 1000) : IntsSl (w.alloc (.cells cs 3)) (.slice (some ⟨w.heap.size, 0, none⟩) n n) l := by
  subst h hn
  refine .inr ⟨w.heap.size, 0, l.length, rfl, Nat.le_refl _, by unfold maxLen; omega, by simp, fun j hj => ?_⟩
  rw [World.cell?_alloc_at _ _ _ _ rfl]
  simp [List.getD, hj]
theorem sp09E : encE [98, 252, 99, 104, 101, 114] = .ok [98, 99, 104, 101, 114, 45, 107, 118, 97] := by
  rw [encE_ok (by decide) (by decide +kernel)]
  exact congrArg _ sp09
set_option maxHeartbeats 1600000 in
set_option maxRecDepth 100000 in
theorem speaks09 (w : World) : Calls Tryd.prog 27 #[] w fun e w' => e = .returned (.bool true) ∧ Below w.heap.size w w' := by
  have hst : Below w.heap.size w (w.alloc (.cells #[.int .i64 98, .int .i64 252, .int .i64 99, .int .i64 104, .int .i64 101, .int .i64 114] 3)) := (Below.refl _ _).alloc (Nat.le_refl _) _
  have hi := ints_lit w [98, 252, 99, 104, 101, 114] 6 #[.int .i64 98, .int .i64 252, .int .i64 99, .int .i64 104, .int .i64 101, .int .i64 114] rfl rfl (by decide) (by decide)
  have cE' : Calls Tryd.prog 28 #[.slice (some ⟨w.heap.size, 0, none⟩) 6 6] (w.alloc (.cells #[.int .i64 98, .int .i64 252, .int .i64 99, .int .i64 104, .int .i64 101, .int .i64 114] 3)) fun e w' => e = .returned (.tuple #[.string ⟨#[98, 99, 104, 101, 114, 45, 107, 118, 97]⟩, .nilIface]) ∧ Below w.heap.size w w' :=
    (puny_Encode _ _ _ hi (by decide)).mono fun e w' ⟨hb, h⟩ => by
      rcases h with ⟨k, i, v, h1, _⟩ | ⟨l, h1, h2⟩
      · rw [sp09E] at h1; cases h1
      · rw [sp09E] at h1; cases h1; exact ⟨h2, Bt hst hb⟩
  have CE := Lib.hid cE'
  clear cE' hi hst
  go_enter Tryd.func27, Tryd.ntmps27
  go_wp2_with fail
  refine CE.out.mono ?_
  rintro e w2 ⟨rfl, hb2⟩
  go_wp2_with fail
  go_ret
  exact ⟨rfl, hb2⟩
end Go.Proofs.YtakcfgmibijdnaaDoor

/- The walk of PunyAdapts. -/
namespace Go.Proofs.YtakcfgmibijdnaaDoor
open Go.RowKit

set_option maxHeartbeats 1600000 in
set_option maxRecDepth 100000 in
theorem ref_Adapt (delta count : Int) (first : Bool) (w : World) (h1 : delta ≤ 1099511627776) (h2 : count ≤ 1099511627776) :
    Calls Tryd.prog 70 #[.int .i64 delta, .int .i64 count, .bool first] w fun e w' => e = .returned (.int .i64 (adaptZ delta count first)) ∧ w = w' := by
  by_cases hd : delta < 0
  · have HV := Lib.hid (adaptZ_neg (first := first) (count := count) (.inl hd))
    go_enter Tryd.func70, Tryd.ntmps70
    go_wp2_with fail
    go_ret
    exact ⟨ret_i64 HV.out.symm, rfl⟩
  by_cases hc : count < 1
  · have HV := Lib.hid (adaptZ_neg (first := first) (delta := delta) (.inr hc))
    go_enter Tryd.func70, Tryd.ntmps70
    go_wp2_with fail
    go_ret
    exact ⟨ret_i64 HV.out.symm, rfl⟩
  obtain ⟨d, rfl⟩ : ∃ d : Nat, delta = d := ⟨delta.toNat, by omega⟩
  obtain ⟨c, rfl⟩ : ∃ c : Nat, count = c := ⟨count.toNat, by omega⟩
  have hc1 : 1 ≤ c := by omega
  rw [adaptZ_nat d c first hc1]
  have hz := adapt0_le d c first
  have hst := adapt0_int d c first (by omega)
  have hR : adaptL (adapt0 d c first) (adapt0 d c first) 0 = adaptN d c first := rfl
  have HR := Lib.hid hR
  clear hR hd hc
  generalize adaptN d c first = R at *
  generalize adapt0 d c first = D at *
  cases first
  all_goals
    simp only [Bool.false_eq_true, if_false, if_true, reduceIte] at hst
    have hs := congrArg (Value.int .i64) hst
    have HST := Lib.hid hs
    clear hst hs
    go_enter Tryd.func70, Tryd.ntmps70
    go_wp2_with fail
    go_loop [7, 8] (fun x y => ∃ f e k : Nat, x = .int .i64 e ∧ y = .int .i64 k ∧ e ≤ f ∧ k + e ≤ D ∧ adaptL f e k = R) (fun x _ => (intOf x).toNat)
    case atStart => exact ⟨D, D, 0, HST.out, rfl, Nat.le_refl _, by omega, HR.out⟩
    case round =>
      obtain ⟨f, e, k, rfl, rfl, hef, hke, hg⟩ := hrel
      by_cases h5 : 455 < e
      · obtain ⟨f', rfl⟩ : ∃ f', f = f' + 1 := ⟨f - 1, by omega⟩
        rw [adaptL_go h5] at hg
        have HG := Lib.hid hg
        have h5I : (e : Int) > 455 := by omega
        clear hg
        go_wp2_with fail
        go_round
        case rel => exact ⟨f', e / 35, k + 36, by simp, by simp, by omega, by omega, HG.out⟩
        case measure => simp [intOf]; omega
      · rw [adaptL_end h5] at hg
        have h5I : ¬ (e : Int) > 455 := by omega
        have hq : 36 * e / (e + 38) ≤ 36 * e := Nat.div_le_self _ _
        have hqc : ((36 * e / (e + 38) : Nat) : Int) = 36 * (e : Int) / ((e : Int) + 38) := by simp
        have HG := Lib.hid hg
        generalize 36 * e / (e + 38) = q at *
        have HQ := Lib.hid hqc
        clear hg hqc
        go_wp2_with fail
        rw [← HQ.out]
        go_wp2_with fail
        go_ret
        exact ⟨ret_i64 (by rw [wrap64_inA _ (by omega) (by omega), ← HG.out]; simp), rfl⟩
end Go.Proofs.YtakcfgmibijdnaaDoor

/- Where a call's own bytes grow, what stood before stands. -/
namespace Go.Proofs.YtakcfgmibijdnaaDoor
open Go.RowKit

theorem OwnB.under {w0 w w' : World} {base : Nat} {v : Value} {l : List UInt8} (h : OwnB w base v l) (hb : Below w0.heap.size w0 w) (hB : w0.heap.size ≤ base) (hg : w.grownBy w' v.ownBlock) : Below w0.heap.size w0 w' :=
  hb.grown hg hb.size (fun j hj => Nat.le_trans hB (World.ownsRow.lt h j hj).1)
theorem row_len {w : World} {base : Nat} {e : TypeId} {size : Nat} {v : Value} {n : Nat} {xs : List Value} (h : w.ownsRow base e size v n xs) : ∃ a cap, v = .slice a n cap := by
  rcases h.2 with ⟨h0, h1⟩ | ⟨g, cap, cur, rfl, _⟩
  · exact ⟨none, 0, by rw [h0, h1]⟩
  · exact ⟨_, _, rfl⟩
end Go.Proofs.YtakcfgmibijdnaaDoor

/- A call's own bytes, as a string. -/
namespace Go.Proofs.YtakcfgmibijdnaaDoor
open Go.RowKit

theorem BytesSl.conv {w : World} {a : Option Addr} {len cap : Nat} {s : ByteArray} (h : BytesSl w (.slice a len cap) s) : (convert 76 9 (.slice a len cap)).run Tryd.prog w = .ok (.string s) w := by
  rcases h with ⟨h0, a', cap', e⟩ | ⟨b, off, cap', e, h1, h2, h3, h4⟩
  · cases e
    have hs : s = ⟨#[]⟩ := by
      apply ByteArray.ext
      apply Array.eq_empty_of_size_eq_zero
      exact h0
    subst hs
    cases a with
    | none =>
      exact run_convert_bytes_nil w 76 5 Tryd.underlying76 Tryd.underlying5 0 cap 9 Tryd.underlying9
    | some ad =>
      have := run_convert_bytes_back (P := Tryd.prog) w 76 9 5 ad cap [] Tryd.underlying76 Tryd.underlying5 Tryd.underlying9 (fun j hj => by simp at hj)
      exact this
  · cases e
    have := run_convert_bytes_back (P := Tryd.prog) w 76 9 5 ⟨b, off, none⟩ cap s.data.toList Tryd.underlying76 Tryd.underlying5 Tryd.underlying9 (fun j hj => by
      have hj' : j < s.size := hj
      rw [Addr.add_lit, h4 j hj']
      simp [byteAt, List.getD, List.getElem?_eq_getElem hj])
    exact this
theorem OwnB.conv {w : World} {base : Nat} {v : Value} {l : List UInt8} (h : OwnB w base v l) : (convert 76 9 v).run Tryd.prog w = .ok (.string ⟨l.toArray⟩) w := by
  rcases h.shape with ⟨rfl, rfl⟩ | ⟨g, cap, rfl, h1, h2, h3, h4⟩
  · exact BytesSl.conv h.sl
  · exact BytesSl.conv h.sl
end Go.Proofs.YtakcfgmibijdnaaDoor
