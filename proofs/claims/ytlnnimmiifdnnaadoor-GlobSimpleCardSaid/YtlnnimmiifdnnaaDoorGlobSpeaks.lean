/- glob.Least; the examples of chapter 15's statements. -/
import Derived.Test.YtlnnimmiifdnnaaDoorGlobMatch
namespace Go.Proofs.YtlnnimmiifdnnaaDoor
open Go.RowKit

theorem stars_step {l : List Nat} {i c : Nat} (h : l[i]? = some c) : ((l.take (i + 1)).filter fun c => decide (c ≠ 42)).length = ((l.take i).filter fun c => decide (c ≠ 42)).length + if (partOf c).many = true then 0 else 1 := by
  rw [← take_one' h, List.filter_append, List.length_append]
  congr 1
  by_cases hc : c = 42
  · subst hc; rfl
  · have hm : (partOf c).many = false := by
      unfold partOf
      rw [if_neg hc]
      split <;> rfl
    rw [hm]
    simp [hc]
theorem patP_get {p : ByteArray} {i : Nat} {q : GPart} (h : (patP p)[i]? = some q) : ∃ c, (chrs p).1[i]? = some c ∧ q = partOf c := by
  unfold patP at h
  rw [List.getElem?_map] at h
  cases hx : (chrs p).1[i]? with
  | none => rw [hx] at h; simp at h
  | some c => rw [hx] at h; simp at h; exact ⟨c, rfl, h.symm⟩
def leastTo (p : ByteArray) (i : Nat) : Nat := (((chrs p).1.take i).filter fun c => decide (c ≠ 42)).length
theorem leastTo_le (p : ByteArray) (i : Nat) : leastTo p i ≤ i := by
  unfold leastTo
  exact Nat.le_trans (List.length_filter_le _ _) (List.length_take_le _ _)

set_option maxHeartbeats 1600000 in
set_option maxRecDepth 100000 in
theorem glob_Least (p : ByteArray) (w : World) (hU : Utf8Laid w) (hp : p.size ≤ 16777216) : Calls Tryd.prog 12 #[.string p] w fun e w' => e = .returned (.int .i64 (leastN p : Nat)) ∧ Below w.heap.size w w' := by
  go_enter Tryd.func12, Tryd.ntmps12
  go_wp2_with fail
  refine (glob_plain p _ hU hp).mono ?_
  rintro e w1 ⟨hb1, h⟩
  rcases h with ⟨hok, v, rfl, hown⟩ | ⟨hok, u, rfl⟩
  · obtain ⟨a, c, e4⟩ := row_len hown
    subst e4
    obtain ⟨_, hc3, hc4, hpsl⟩ := hown.sl
    have hpl := patP_len p
    have hcl : (patP p).length = (chrs p).1.length := by unfold patP; rw [List.length_map]
    have hfin : leastTo p (patP p).length = leastN p := by unfold leastN leastTo; rw [if_pos hok, hcl, List.take_length]
    have HFIN := Lib.hid hfin
    have hget := fun i q => @patP_get p i q
    have HGET := Lib.hid hget
    generalize patP p = ps at *
    unfold maxLen at hc4
    clear hok hown hcl hfin hget
    go_wp2_with fail
    go_loopw [5, 15] (fun n x wr => ∃ i : Nat, i ≤ ps.length ∧ x = .int .i64 i ∧ n = .int .i64 (leastTo p i : Nat) ∧ Below w1.heap.size w1 wr) (fun _ x _ => ps.length - (intOf x).toNat)
    case atStart => exact ⟨0, Nat.zero_le _, rfl, by unfold leastTo; simp, Below.refl _ _⟩
    case round =>
      obtain ⟨i, hil, rfl, rfl, hbr⟩ := hrel
      by_cases hlt : i < ps.length
      · obtain ⟨q, hq⟩ : ∃ q, ps[i]? = some q := ⟨_, List.getElem?_eq_getElem hlt⟩
        obtain ⟨b, rfl, hbw, h1, h2, h3⟩ := (hpsl.below hbr) i q hq
        obtain ⟨d, hd, rfl⟩ := HGET.out i q hq
        have hst : leastTo p (i + 1) = leastTo p i + if (partOf d).many = true then 0 else 1 := stars_step hd
        have hle := leastTo_le p i
        generalize leastTo p i = n at *
        generalize partOf d = pd at *
        obtain ⟨ch, wild, many⟩ := pd
        have hal := hbr.alloc hbr.size (.cells #[.int .i64 (ch : Int), .bool wild, .bool many] 47)
        simp only at h1 h2 h3 hst
        cases many with
        | true =>
          have HST := Lib.hid hst
          clear hst hq hd
          go_wp2_with fail
          go_roundw
          case rel => exact ⟨i + 1, by omega, by go_num, by rw [HST.out]; rfl, hal⟩
          case measure => simp [intOf]; omega
        | false =>
          have HST := Lib.hid hst
          clear hst hq hd
          go_wp2_with fail
          go_roundw
          case rel => exact ⟨i + 1, by omega, by go_num, by rw [HST.out]; rfl, hal⟩
          case measure => simp [intOf]; omega
      · obtain rfl : i = ps.length := by omega
        have hb2 := Bt hb1 hbr
        go_wp2_with fail
        go_ret
        exact ⟨ret_i64 (by rw [HFIN.out]), hb2⟩
  · have hv := Lib.hid (show leastN p = 0 by unfold leastN; rw [if_neg (by simp [hok])])
    clear hok
    go_wp2_with fail
    refine wp_loop_rounds 1 ?_
    rw [rounds_succ]
    go_wp2_with fail
    go_ret
    exact ⟨ret_i64 (by rw [hv.out]; rfl), hb1⟩

theorem sp1 : matchB ⟨#[47, 98, 117, 121, 47, 63, 42]⟩ ⟨#[47, 98, 117, 121, 47, 49]⟩ false = true := by decide +kernel
theorem sp2 : matchB ⟨#[47, 98, 117, 121, 47, 63, 42]⟩ ⟨#[47, 98, 117, 121, 47]⟩ false = false := by decide +kernel
theorem sp3 : simpleB ⟨#[47, 97, 46, 42, 98]⟩ ⟨#[47, 97, 98]⟩ = true := by decide +kernel
theorem sp4 : simpleB ⟨#[47, 97, 46, 42, 98]⟩ ⟨#[47, 97, 120, 120, 98]⟩ = true := by decide +kernel

set_option maxHeartbeats 1600000 in
theorem speaks15 (w : World) (hU : Utf8Laid w) : Calls Tryd.prog 8 #[] w fun e w' => e = .returned (.bool true) ∧ Below w.heap.size w w' := by
  have c1 := Lib.hid (fun W h => sp1 ▸ glob_Match ⟨#[47, 98, 117, 121, 47, 63, 42]⟩ ⟨#[47, 98, 117, 121, 47, 49]⟩ false W h (by decide) (by decide))
  have c2 := Lib.hid (fun W h => sp2 ▸ glob_Match ⟨#[47, 98, 117, 121, 47, 63, 42]⟩ ⟨#[47, 98, 117, 121, 47]⟩ false W h (by decide) (by decide))
  have c3 := Lib.hid (fun W h => sp3 ▸ glob_Simple ⟨#[47, 97, 46, 42, 98]⟩ ⟨#[47, 97, 98]⟩ W h (by decide) (by decide))
  have c4 := Lib.hid (fun W h => sp4 ▸ glob_Simple ⟨#[47, 97, 46, 42, 98]⟩ ⟨#[47, 97, 120, 120, 98]⟩ W h (by decide) (by decide))
  go_enter Tryd.func8, Tryd.ntmps8
  go_wp2_with fail
  refine (c1.out _ hU).mono ?_
  rintro e w1 ⟨rfl, hb1⟩
  have hU1 := hU.below hb1
  go_wp2_with fail
  refine (c2.out _ hU1).mono ?_
  rintro e w2 ⟨rfl, hb2⟩
  have hU2 := hU1.below hb2
  have hb12 := Bt hb1 hb2
  clear hb1 hb2 hU1
  go_wp2_with fail
  refine (c3.out _ hU2).mono ?_
  rintro e w3 ⟨rfl, hb3⟩
  have hU3 := hU2.below hb3
  have hb13 := Bt hb12 hb3
  clear hb12 hb3 hU2
  go_wp2_with fail
  refine (c4.out _ hU3).mono ?_
  rintro e w4 ⟨rfl, hb4⟩
  have hb14 := Bt hb13 hb4
  go_wp2_with fail
  go_ret
  exact ⟨rfl, hb14⟩
end Go.Proofs.YtlnnimmiifdnnaaDoor
