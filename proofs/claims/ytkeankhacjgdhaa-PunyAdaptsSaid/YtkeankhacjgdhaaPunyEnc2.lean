/- puny.Encode, of any numbers; the example of chapter 9's statements. -/
import Derived.Test.YtkeankhacjgdhaaPunyEnc
namespace Go.Proofs.Ytkeankhacjgdhaa
open Go.RowKit

theorem enc_nil : encE [] = .ok [] := rfl
set_option maxHeartbeats 3200000 in
set_option maxRecDepth 100000 in
theorem puny_Encode0 (a : Option Addr) (cap : Nat) (w : World) : Calls Try.prog 8 #[.slice a 0 cap] w (EncPost [] w) := by
  have hbl : Bld (w.alloc (.cells #[.pointer none, .slice none 0 0] 40)) (w.heap.size + 1) w.heap.size [] := Bld.new rfl (heap_alloc_new w _) (by omega)
  have hst : Below w.heap.size w (w.alloc (.cells #[.pointer none, .slice none 0 0] 40)) := (Below.refl _ _).alloc (Nat.le_refl _) _
  have hszA : (w.alloc (.cells #[.pointer none, .slice none 0 0] 40)).heap.size = w.heap.size + 1 := World.size_alloc _ _
  have cL' : ∀ W, W = (w.alloc (.cells #[.pointer none, .slice none 0 0] 40)) → Calls Try.prog 15 #[.pointer (some ⟨w.heap.size, 0, none⟩)] W fun e w' => e = .returned (.int .i64 0) ∧ w' = W := fun W h => by subst h; exact bld_Len _ _ _ _ hbl
  have cL := Lib.hid (cL' _ rfl)
  have cC' : ∀ W, Calls Try.prog 16 #[.slice a 0 cap] W fun e w' => ∃ v c, e = .returned (.slice v 0 c) ∧ Below W.heap.size W w' := by
    intro W
    cases a with
    | none =>
      refine (Try.slices_Clone_int_nil 0 cap W).mono ?_
      rintro e w' ⟨he, rfl⟩
      exact ⟨none, 0, he, Below.refl _ _⟩
    | some ad =>
      refine (Try.slices_Clone_int_zero ad cap W).mono ?_
      rintro e w' ⟨v, he, hown, _, hb⟩
      obtain ⟨q, c, rfl⟩ : ∃ q c, v = .slice q 0 c := by
        rcases hown.2 with ⟨e0, _⟩ | ⟨g, cp, cur, e0, _⟩
        · exact ⟨none, 0, e0⟩
        · exact ⟨_, cp, e0⟩
      exact ⟨q, c, he, hb⟩
  have cC := Lib.hid cC'
  clear cC'
  have HBL := Lib.hid hbl
  have HST := Lib.hid hst
  clear cL' hbl hst
  go_enter Try.func8, Try.ntmps8
  go_wp2_with fail
  go_loopw [23] (fun i wr => i = .int .i64 0 ∧ (w.alloc (.cells #[.pointer none, .slice none 0 0] 40)) = wr) (fun _ _ => 0)
  case atStart => exact ⟨rfl, rfl⟩
  case round =>
    obtain ⟨rfl, rfl⟩ := hrel
    go_wp2_with fail
    refine cL.out.mono ?_
    rintro e w2 ⟨rfl, rfl⟩
    go_wp2_with fail
    refine (cC.out _).mono ?_
    rintro e w3 ⟨v, c, rfl, hb3⟩
    have HB3 := Lib.hid hb3
    clear hb3
    go_wp2_with fail
    refine (Try.slices_Sort_int_none v c w3).mono ?_
    rintro e w4 ⟨rfl, hw4⟩
    obtain rfl := hw4.symm
    go_wp2_with fail
    refine (Try.slices_Compact_int_empty v c w3).mono ?_
    rintro e w4 ⟨rfl, hw5⟩
    obtain rfl := hw5.symm
    go_wp2_with fail
    go_loopw [9, 10, 11, 12, 51] (fun _ _ _ _ i wr => i = .int .i64 0 ∧ w3 = wr) (fun _ _ _ _ _ _ => 0)
    case atStart => exact ⟨rfl, rfl⟩
    case round =>
      obtain ⟨rfl, rfl⟩ := hrel
      have hb := HST.out.trans (HB3.out.mono (by omega))
      have hsz := HB3.out.size
      have cT := Lib.hid (bld_String _ _ _ _ (HBL.out.below HB3.out) (by omega))
      have HB := Lib.hid hb
      clear hb
      go_wp2_with fail
      refine cT.out.mono ?_
      rintro e w8 ⟨rfl, hb8⟩
      have hbE := HB.out.trans hb8
      go_wp2_with fail
      go_ret2
      exact ⟨hbE, .inr ⟨[], enc_nil, rfl⟩⟩
theorem puny_Encode (x : Value) (zs : List Int) (w : World) (hx : IntsSl w x zs) (hz : zs.length ≤ 9223372036854775807) : Calls Try.prog 8 #[x] w (EncPost zs w) := by
  by_cases h0 : zs = []
  · subst h0
    obtain ⟨a, cap, rfl⟩ : ∃ a cap, x = .slice a 0 cap := by
      rcases hx with ⟨_, a, cap, e⟩ | ⟨b, off, cap, e, _⟩
      · exact ⟨a, cap, e⟩
      · exact ⟨_, _, e⟩
    exact puny_Encode0 a cap w
  · have hne : 0 < zs.length := by cases zs with | nil => exact absurd rfl h0 | cons _ _ => simp
    rcases hx with ⟨h, _⟩ | ⟨b, off, cap, rfl, hcap, hcm, hbw, hcell⟩
    · exact absurd h h0
    · by_cases hlong : 256 < zs.length
      · have HE := Lib.hid (encE_long hlong)
        have hlI : (zs.length : Int) > 256 := by omega
        clear hcell hlong
        go_enter Try.func8, Try.ntmps8
        go_wp2_with fail
        refine (api_Fail' 14 256 _).mono ?_
        rintro e w2 ⟨v, rfl, hv, hb⟩
        go_wp2_with fail
        go_ret2
        exact ⟨hb, .inl ⟨14, 256, v, HE.out, by decide, rfl, hv⟩⟩
      · exact puny_Encode1 b off cap zs w hne (by omega) hcap hcm hbw hcell
/-! ### The example -/
theorem ints_lit (w : World) (l : List Int) (n : Nat) (cs : Array Value) (h : cs = (l.map (Value.int .i64)).toArray) (hn : n = l.length) (hl : 0 < l.length) (hm : l.length ≤ 1000) : IntsSl (w.alloc (.cells cs 3)) (.slice (some ⟨w.heap.size, 0, none⟩) n n) l := by
  subst h hn
  refine .inr ⟨w.heap.size, 0, l.length, rfl, Nat.le_refl _, by unfold maxLen; omega, by simp, fun j hj => ?_⟩
  rw [World.cell?_alloc_at _ _ _ _ rfl]
  simp [List.getD, hj]
theorem sp09E : encE [98, 252, 99, 104, 101, 114] = .ok [98, 99, 104, 101, 114, 45, 107, 118, 97] := by
  rw [encE_ok (by decide) (by decide +kernel)]
  exact congrArg _ sp09
set_option maxHeartbeats 1600000 in
set_option maxRecDepth 100000 in
theorem speaks09 (w : World) : Calls Try.prog 5 #[] w fun e w' => e = .returned (.bool true) ∧ Below w.heap.size w w' := by
  have hst : Below w.heap.size w (w.alloc (.cells #[.int .i64 98, .int .i64 252, .int .i64 99, .int .i64 104, .int .i64 101, .int .i64 114] 3)) := (Below.refl _ _).alloc (Nat.le_refl _) _
  have hi := ints_lit w [98, 252, 99, 104, 101, 114] 6 #[.int .i64 98, .int .i64 252, .int .i64 99, .int .i64 104, .int .i64 101, .int .i64 114] rfl rfl (by decide) (by decide)
  have cE' : Calls Try.prog 8 #[.slice (some ⟨w.heap.size, 0, none⟩) 6 6] (w.alloc (.cells #[.int .i64 98, .int .i64 252, .int .i64 99, .int .i64 104, .int .i64 101, .int .i64 114] 3)) fun e w' => e = .returned (.tuple #[.string ⟨#[98, 99, 104, 101, 114, 45, 107, 118, 97]⟩, .nilIface]) ∧ Below w.heap.size w w' :=
    (puny_Encode _ _ _ hi (by decide)).mono fun e w' ⟨hb, h⟩ => by
      rcases h with ⟨k, i, v, h1, _⟩ | ⟨l, h1, h2⟩
      · rw [sp09E] at h1; cases h1
      · rw [sp09E] at h1; cases h1; exact ⟨h2, Bt hst hb⟩
  have CE := Lib.hid cE'
  clear cE' hi hst
  go_enter Try.func5, Try.ntmps5
  go_wp2_with fail
  refine CE.out.mono ?_
  rintro e w2 ⟨rfl, hb2⟩
  go_wp2_with fail
  go_ret
  exact ⟨rfl, hb2⟩
end Go.Proofs.Ytkeankhacjgdhaa
