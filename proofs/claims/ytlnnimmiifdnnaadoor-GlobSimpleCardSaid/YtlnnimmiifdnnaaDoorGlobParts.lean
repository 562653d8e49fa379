/- glob.plain: the parts of a pattern. -/
import Derived.Test.YtlnnimmiifdnnaaDoorGlobMem
import Derived.Test.YtlnnimmiifdnnaaDoorGlobCheck
namespace Go.Proofs.YtlnnimmiifdnnaaDoor
open Go.RowKit

theorem patP_len (p : ByteArray) : (patP p).length ≤ p.size := by unfold patP; rw [List.length_map]; exact chrs_len p
theorem okP_none {p : ByteArray} (h : okP p = true) : (chrs p).2 = none ∧ p.size ≤ 1024 := by
  unfold okP at h
  rw [Bool.and_eq_true, decide_eq_true_iff, Option.isNone_iff_eq_none] at h
  exact ⟨h.2, h.1⟩
def PlainPost (p : ByteArray) (w : World) (e : Ending) (w' : World) : Prop :=
  Below w.heap.size w w' ∧ ((okP p = true ∧ ∃ v, e = .returned (.tuple #[v, .nilIface]) ∧ OwnP w' w.heap.size v (patP p)) ∨ (okP p = false ∧ ∃ u, e = .returned (.tuple #[.slice none 0 0, .iface 70 u])))

theorem map_take_one {cs : List Nat} {i c : Nat} (h : cs[i]? = some c) : (cs.take i).map partOf ++ [partOf c] = (cs.take (i + 1)).map partOf := by
  obtain ⟨hi, rfl⟩ := List.getElem?_eq_some_iff.1 h
  rw [List.take_succ_eq_append_getElem hi, List.map_append]; rfl

set_option maxHeartbeats 1600000 in
set_option maxRecDepth 100000 in
theorem glob_plain (p : ByteArray) (w : World) (hU : Utf8Laid w) (hp : p.size ≤ 16777216) : Calls Tryd.prog 25 #[.string p] w (PlainPost p w) := by
  go_enter Tryd.func25, Tryd.ntmps25
  go_wp2_with fail
  refine (glob_Check p _ hU hp).mono ?_
  rintro e w1 ⟨hb1, h⟩
  rcases h with ⟨hok, _, rfl⟩ | ⟨hok, _, v, rfl, hv⟩
  · have HOK := Lib.hid hok
    have HN := Lib.hid (okP_none hok).1
    clear hok
    have hU1 := hU.below hb1
    go_wp2_with ((with_reducible refine wpList_bytes_sl rfl 9 27 5 _ rfl p rfl Tryd.underlying9 Tryd.underlying27 Tryd.underlying5 (by omega) ?_); intro v1 w2 hv1 hb2)
    have hb12 := Bt hb1 hb2
    have hU2 := hU1.below hb2
    refine (utf_Chars v1 p _ hU2 hp hv1).mono ?_
    rintro e w3 ⟨hb3, h⟩
    have hb13 := Bt hb12 hb3
    rcases h with ⟨_, v3, rfl, hown⟩ | ⟨i, hi, _⟩
    · obtain ⟨a, c, rfl, hc1, hc2, hsl⟩ := chars_sl hown rfl
      have hlen := chrs_len p
      have hpat : patP p = (chrs p).1.map partOf := rfl
      have hpl := patP_len p
      rw [hpat] at hpl
      generalize (chrs p).1 = cs at *
      have HPAT := Lib.hid hpat
      unfold maxLen at hc2
      clear hown hb1 hb2 hb3 hb12 hU1 hU2 hpat
      go_wp2_with fail
      go_loopw [7, 23] (fun v x wr => ∃ i : Nat, i ≤ cs.length ∧ x = .int .i64 i ∧ OwnP wr w3.heap.size v ((cs.take i).map partOf) ∧ Below w3.heap.size w3 wr) (fun _ x _ => cs.length - (intOf x).toNat)
      case atStart => exact ⟨0, Nat.zero_le _, rfl, OwnP.nil _ _, Below.refl _ _⟩
      case round =>
        obtain ⟨i, hil, rfl, hown, hbr⟩ := hrel
        by_cases hlt : i < cs.length
        · obtain ⟨d, hd⟩ : ∃ d, cs[i]? = some d := ⟨_, List.getElem?_eq_getElem hlt⟩
          obtain ⟨b, rfl, hbw, hcell⟩ := (hsl.below hbr) i d hd
          have hmt := map_take_one hd
          have hdl : ((cs.take i).map partOf).length ≤ 16777216 := by rw [List.length_map]; have := List.length_take_le i cs; omega
          have hbs := (Bt hb13 hbr).size
          generalize (cs.take i).map partOf = done at *
          have hws := hbr.size
          by_cases h42 : d = 42
          · subst h42
            have HMT := Lib.hid hmt
            clear hmt hd
            have ho2 := hown.below ((Below.refl wr.heap.size wr).alloc (Nat.le_refl _) (.cells #[.int .i64 0, .bool true, .bool true] 47))
            have hbr2 := hbr.alloc hbr.size (.cells #[.int .i64 0, .bool true, .bool true] 47)
            go_wp2_with (at_builtin; refine wpList_app_part rfl (.tmp 35) (.tmp 37) rfl w3.heap.size _ _ rfl ho2 wr.heap.size 1 ⟨0, true, true⟩ rfl (heap_alloc_new wr _) (by omega) (by simp; omega) ?_)
            intro v4 w4 hown4 hg4
            have hbr4 := ho2.under hbr2 (Nat.le_refl _) hg4
            clear ho2 hbr2 hown hbr hg4
            go_wp2_with fail
            go_roundw
            case rel => exact ⟨i + 1, by omega, by go_num, by rw [← HMT.out]; exact hown4, hbr4⟩
            case measure => simp [intOf]; omega
          · have e1 : ((d : Int) == 42) = false := by rw [beq_eq_false_iff_ne]; omega
            by_cases h63 : d = 63
            · subst h63
              have HMT := Lib.hid hmt
              clear hmt hd h42
              have ho2 := hown.below ((Below.refl wr.heap.size wr).alloc (Nat.le_refl _) (.cells #[.int .i64 0, .bool true, .bool false] 47))
              have hbr2 := hbr.alloc hbr.size (.cells #[.int .i64 0, .bool true, .bool false] 47)
              go_wp2_with (at_builtin; refine wpList_app_part rfl (.tmp 41) (.tmp 43) rfl w3.heap.size _ _ rfl ho2 wr.heap.size 1 ⟨0, true, false⟩ rfl (heap_alloc_new wr _) (by omega) (by simp; omega) ?_)
              intro v4 w4 hown4 hg4
              have hbr4 := ho2.under hbr2 (Nat.le_refl _) hg4
              clear ho2 hbr2 hown hbr hg4
              go_wp2_with fail
              go_roundw
              case rel => exact ⟨i + 1, by omega, by go_num, by rw [← HMT.out]; exact hown4, hbr4⟩
              case measure => simp [intOf]; omega
            · have e2 : ((d : Int) == 63) = false := by rw [beq_eq_false_iff_ne]; omega
              rw [partOf_char h42 h63] at hmt
              have HMT := Lib.hid hmt
              clear hmt hd h42 h63
              have ho2 := hown.below ((Below.refl wr.heap.size wr).alloc (Nat.le_refl _) (.cells #[.int .i64 (d : Int), .bool false, .bool false] 47))
              have hbr2 := hbr.alloc hbr.size (.cells #[.int .i64 (d : Int), .bool false, .bool false] 47)
              go_wp2_with (at_builtin; refine wpList_app_part rfl (.tmp 28) (.tmp 31) rfl w3.heap.size _ _ rfl ho2 wr.heap.size 1 ⟨d, false, false⟩ rfl (heap_alloc_new wr _) (by omega) (by simp; omega) ?_)
              intro v4 w4 hown4 hg4
              have hbr4 := ho2.under hbr2 (Nat.le_refl _) hg4
              clear ho2 hbr2 hown hbr hg4
              go_wp2_with fail
              go_roundw
              case rel => exact ⟨i + 1, by omega, by go_num, by rw [← HMT.out]; exact hown4, hbr4⟩
              case measure => simp [intOf]; omega
        · obtain rfl : i = cs.length := by omega
          rw [List.take_length, ← HPAT.out] at hown
          have hb4 := Bt hb13 hbr
          have hown5 := ownsRow_base hown hb13.size
          clear hown
          go_wp2_with fail
          go_ret2
          exact ⟨hb4, .inl ⟨HOK.out, _, rfl, hown5⟩⟩
    · rw [HN.out] at hi; cases hi
  · obtain ⟨u, rfl⟩ := hv.ne_nil
    have HOK := Lib.hid hok
    clear hok
    go_wp2_with fail
    go_ret2
    exact ⟨hb1, .inr ⟨HOK.out, u, rfl⟩⟩
end Go.Proofs.YtlnnimmiifdnnaaDoor
