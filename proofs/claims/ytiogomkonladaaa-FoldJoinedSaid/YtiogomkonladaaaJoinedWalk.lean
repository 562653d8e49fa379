/- The walk of the statement FoldJoined. -/
import Derived.Test.YtiogomkonladaaaSpeaks
import Derived.Test.YtiogomkonladaaaJoinPlain
namespace Go.Proofs.Ytiogomkonladaaa
open Go.RowKit

theorem IsFault.ne_nil {w : World} {v : Value} {k i : Int} (h : IsFault w v k i) : ∃ p, v = .iface 42 p := by
  obtain ⟨b, rfl, _⟩ := h
  exact ⟨_, rfl⟩

theorem mark_string (c : UInt8) (w : World) : (convert 25 9 (.slice (some ⟨w.heap.size, 0, none⟩) 1 1)).run Try.prog (w.alloc (.cells #[.int .u8 (c.toNat : Int)] 5)) = .ok (.string ⟨#[c]⟩) (w.alloc (.cells #[.int .u8 (c.toNat : Int)] 5)) := by
  have hB : BytesAt (w.alloc (.cells #[.int .u8 (c.toNat : Int)] 5)) w.heap.size [c] := ⟨5, [], 0, 0, .inl (Nat.le_refl _), heap_alloc_new w _⟩
  exact run_back (P := Try.prog) _ 25 9 5 w.heap.size 1 [c] Try.underlying25 Try.underlying5 Try.underlying9 hB

set_option maxHeartbeats 4000000 in
set_option maxRecDepth 100000 in
theorem joined_walk (b off n cap : Nat) (l : List ByteArray) (mark : UInt8) (w : World) (hn1 : 1 ≤ n) (hn2 : n ≤ 100) (hl : StrRow w b off n l) (hb : b < w.heap.size) :
    Calls Try.prog 3 #[.slice (some ⟨b, off, none⟩) n cap, .int .u8 (mark.toNat : Int)] w fun e w' => e = .returned (.bool true) ∧ Below w.heap.size w w' := by
  have hmk := mark_string mark
  have d1 : decide ((100 : Int) < (n : Int)) = false := by simp; omega
  have d2 : ((n : Int) == 0) = false := by simp; omega
  go_enter Try.func3, Try.ntmps3
  go_wp2_with fail
  refine (law_speaks _).mono ?_
  rintro e w1 ⟨rfl, hb1⟩
  go_wp2_with fail
  go_loopw [5, 24] (fun s i wr => ∃ k : Nat, k ≤ n ∧ i = .int .i64 k ∧ s = .string (joinTo l mark k) ∧ Below w.heap.size w wr ∧ ∀ j, j < k → (l.getD j ByteArray.empty).size ≤ 200 ∧ hasB (l.getD j ByteArray.empty) mark = false)
    (fun _ i _ => n - (intOf i).toNat)
  case atStart => exact ⟨0, Nat.zero_le _, rfl, rfl, hb1, fun j hj => by omega⟩
  case round =>
    obtain ⟨k, hk, rfl, rfl, hbr, hall⟩ := hrel
    have hsz := joinTo_size l mark k (fun j hj => (hall j hj).1)
    have HA := Lib.hid hall
    clear hall hb1
    by_cases hlt : k < n
    · have e1 : wr.cell? ⟨b, off + k, none⟩ = some (.string (l.getD k ByteArray.empty)) := (hl.below hbr hb).2 k hlt
      generalize hx1 : l.getD k ByteArray.empty = x at *
      generalize hx2 : joinTo l mark k = s at *
      have HX1 := Lib.hid hx1
      have HX2 := Lib.hid hx2
      clear hx1 hx2
      by_cases h200 : x.size ≤ 200
      · go_wp2_with fail
        refine (ref_Has _ _ _ (by omega)).mono ?_
        rintro e w2 ⟨rfl, rfl⟩
        by_cases hhas : hasB x mark = true
        · go_wp2_with fail
          go_ret
          exact ⟨rfl, hbr⟩
        · have hhas' : hasB x mark = false := by simpa using hhas
          have hall' : ∀ j, j < k + 1 → (l.getD j ByteArray.empty).size ≤ 200 ∧ hasB (l.getD j ByteArray.empty) mark = false := fun j hj => by
            by_cases hjk : j = k
            · subst hjk; rw [HX1.out]; exact ⟨h200, hhas'⟩
            · exact HA.out j (by omega)
          have HA' := Lib.hid hall'
          clear hall' hhas
          by_cases hk0 : k = 0
          · subst hk0
            go_wp2_with fail
            go_roundw
            case rel => exact ⟨1, by omega, rfl, by rw [joinTo_one, HX1.out, HX2.out], hbr, HA'.out⟩
            case measure => simp [intOf]; omega
          · have hk1 : 0 < k := by omega
            go_wp2_with fail
            go_roundw
            case rel => exact ⟨k + 1, by omega, by go_num, by rw [joinTo_more _ _ _ hk1, HX1.out, HX2.out], hbr.alloc hbr.size _, HA'.out⟩
            case measure => simp [intOf]; omega
      · go_wp2_with fail
        go_ret
        exact ⟨rfl, hbr⟩
    · obtain rfl : k = n := by omega
      have hpl := joined_parts l mark k hl.1 hn1 (fun j hj => (HA.out j hj).2)
      generalize hs : joinTo l mark k = s at *
      obtain ⟨hp1, hp2⟩ := hpl
      generalize hc1 : (cutAt s mark s.size).1 = ps at *
      generalize hc2 : s.extract (cutAt s mark s.size).2 s.size = q at *
      have HP1 := Lib.hid hp1
      have HP2 := Lib.hid hp2
      have HC1 := Lib.hid hc1
      have HC2 := Lib.hid hc2
      clear hp1 hp2 hc1 hc2 hs
      go_wp2_with fail
      refine (fold_Fields s mark k _ (by omega) (by omega) (by omega)).mono ?_
      rintro e w2 ⟨hb2, h⟩
      rw [HC1.out, HC2.out, HP1.out, HP2.out] at h
      rcases h with ⟨v, rfl, _, hown⟩ | ⟨i, v, rfl, hi, _, hc, _⟩
      · have hk1 : k - 1 + 1 = k := by omega
        rw [hk1] at hown
        clear hk1
        obtain ⟨g, cap2, rfl, hg, hgl⟩ := ownsRow_form hown (by omega)
        have hrow := StrRow.of_own hown
        have hb12 := hbr.trans (hb2.mono hbr.size)
        clear hown hb2 hbr
        have hrow2 := hl.below hb12 hb
        by_cases hk2 : 2 ≤ k
        · go_wp2_with fail
          refine (fold_Fields s mark _ _ (by omega) (by omega) (by omega)).mono ?_
          rintro e w3 ⟨hb3, h3⟩
          rw [HC1.out, HP2.out] at h3
          rcases h3 with ⟨v, rfl, hlt3, _⟩ | ⟨i, v, rfl, _, _, _, hv⟩
          · omega
          · obtain ⟨p, rfl⟩ := hv.ne_nil
            clear hv
            have hrow' := hrow.below hb3 hgl
            have hrow2' := hrow2.below hb3 (Nat.lt_of_lt_of_le hb hb12.size)
            have hb13 := hb12.trans (hb3.mono hb12.size)
            clear hrow hrow2 hb3
            go_wp2_with fail
            refine (ref_Same _ _ _ _ _ _ _ _ l l _ hrow' hrow2' (by omega) (by omega)).mono ?_
            rintro e w4 ⟨rfl, m, rfl⟩
            go_wp2_with fail
            go_ret
            exact ⟨by simp, below_drewN hb13 _⟩
        · obtain rfl : k = 1 := by omega
          go_wp2_with fail
          refine (fold_Fields_arg s mark _ _ (by omega)).mono ?_
          rintro e w3 ⟨v, rfl, hv, hb3⟩
          obtain ⟨p, rfl⟩ := hv.ne_nil
          clear hv
          have hrow' := hrow.below hb3 hgl
          have hrow2' := hrow2.below hb3 (Nat.lt_of_lt_of_le hb hb12.size)
          have hb13 := hb12.trans (hb3.mono hb12.size)
          clear hrow hrow2 hb3
          go_wp2_with fail
          refine (ref_Same _ _ _ _ _ _ _ _ l l _ hrow' hrow2' (by omega) (by omega)).mono ?_
          rintro e w4 ⟨rfl, m, rfl⟩
          go_wp2_with fail
          go_ret
          exact ⟨by simp, below_drewN hb13 _⟩
      · have hmo := cutAt_mono s mark (show i + 1 ≤ s.size from hi)
        rw [HC1.out, HP2.out] at hmo
        omega

set_option maxHeartbeats 1600000 in
theorem joined_walk_out (a : Option Addr) (n cap : Nat) (mark : UInt8) (w : World) (hn : n = 0 ∨ 100 < n) :
    Calls Try.prog 3 #[.slice a n cap, .int .u8 (mark.toNat : Int)] w fun e w' => e = .returned (.bool true) ∧ Below w.heap.size w w' := by
  rcases hn with rfl | hn
  · go_enter Try.func3, Try.ntmps3
    go_wp2_with fail
    refine (law_speaks _).mono ?_
    rintro e w1 ⟨rfl, hb1⟩
    go_wp2_with fail
    go_ret
    exact ⟨rfl, hb1⟩
  · have d1 : decide ((100 : Int) < (n : Int)) = true := by simp; omega
    go_enter Try.func3, Try.ntmps3
    go_wp2_with fail
    refine (law_speaks _).mono ?_
    rintro e w1 ⟨rfl, hb1⟩
    go_wp2_with fail
    go_ret
    exact ⟨rfl, hb1⟩
end Go.Proofs.Ytiogomkonladaaa
