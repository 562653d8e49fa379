/- The example of chapter 01's statements. -/
import Derived.Test.YtakognfokahaoaaDoorUtfChars
import Derived.Test.YtakognfokahaoaaDoorHas
namespace Go.Proofs.YtakognfokahaoaaDoor
open Go.RowKit

theorem BytesSl.lit (w : World) (l : List UInt8) (cs : Array Value) (n : Nat) (hcs : cs = (l.map byteV).toArray) (hn : n = l.length) (hl : l.length ≤ 16777216) :
    BytesSl (w.alloc (.cells cs 5)) (.slice (some ⟨w.heap.size, 0, none⟩) n n) ⟨l.toArray⟩ := by
  have hsz : (⟨l.toArray⟩ : ByteArray).size = l.length := by show l.toArray.size = _; simp
  refine .inr ⟨w.heap.size, 0, n, by rw [hsz, hn], by rw [hsz, hn]; exact Nat.le_refl _, by unfold maxLen; omega, by simp, fun j hj => ?_⟩
  rw [hsz] at hj
  subst hcs
  rw [World.cell?_alloc_at _ _ _ _ rfl]
  simp [byteAt, byteV, hj]

theorem speaks01_dec : decB ⟨#[226, 130, 172]⟩ 0 = (8364, 3) := by decide +kernel
theorem speaks01_chrs : (chrs ⟨#[97, 192, 128]⟩).2 = some 1 := by decide +kernel

set_option maxHeartbeats 400000 in
set_option maxRecDepth 100000 in
theorem speaks01 (w : World) (hg : Handle w) (hU : Utf8Laid w) : Calls Tryd.prog 10 #[] w fun e w' => e = .returned (.bool true) ∧ Below w.heap.size w w' := by
  have hb0 : Below w.heap.size w (w.alloc (.cells #[.int .u8 226, .int .u8 130, .int .u8 172] 5)) := (Below.refl _ _).alloc (Nat.le_refl _) _
  have hs0 := BytesSl.lit w [226, 130, 172] #[.int .u8 226, .int .u8 130, .int .u8 172] 3 rfl rfl (by decide)
  go_enter Tryd.func10, Tryd.ntmps10
  go_wp2_with fail
  have hin : BytesIn (w.alloc (.cells #[.int .u8 226, .int .u8 130, .int .u8 172] 5)) w.heap.size 0 ⟨#[226, 130, 172]⟩ := by
    rcases hs0 with ⟨h, _⟩ | ⟨b, off, cap, e, _, _, _, h⟩
    · cases h
    · cases e; exact h
  refine (utf_Next ⟨#[226, 130, 172]⟩ 0 w.heap.size 0 3 _ (hU.below hb0) (by decide) (by decide) (by omega) hin).mono ?_
  rintro e w1 ⟨hb1, h⟩
  have hb01 := Bt hb0 hb1
  rw [okB, speaks01_dec] at h
  rcases h with ⟨_, rfl⟩ | ⟨h, _⟩
  · clear hs0 hin hb0 hb1
    have hb2 : Below w.heap.size w (w1.alloc (.cells #[.int .u8 97, .int .u8 192, .int .u8 128] 5)) := hb01.alloc hb01.size _
    have hs2 := BytesSl.lit w1 [97, 192, 128] #[.int .u8 97, .int .u8 192, .int .u8 128] 3 rfl rfl (by decide)
    have hU2 := hU.below hb2
    have hg2 := hg.below hb2
    go_wp2_with fail
    refine (utf_Valid _ ⟨#[97, 192, 128]⟩ _ hU2 (by decide) hs2).mono ?_
    rintro e w3 ⟨hb3, h⟩
    have hb03 := Bt hb2 hb3
    have hg3 := hg2.below hb3
    clear hs2 hb2 hb3 hU2 hg2
    rw [speaks01_chrs] at h
    rcases h with ⟨h, _⟩ | ⟨i, hi, v, rfl, hv⟩
    · cases h
    · obtain rfl : i = 1 := by cases hi; rfl
      clear hi
      obtain ⟨p, rfl⟩ := hv.ne_nil
      go_wp2_with fail
      refine (fault_Has _ _ _ _ _ hv).mono ?_
      rintro e w4 ⟨rfl, rfl⟩
      have e1 : isKind 12 12 = true := rfl
      go_wp2_with fail
      refine (fault_At_is _ _ _ _ _ hg3 hv).mono ?_
      rintro e w5 ⟨rfl, hb5⟩
      go_wp2_with fail
      go_ret
      exact ⟨rfl, Bt hb03 hb5⟩
  · simp at h
end Go.Proofs.YtakognfokahaoaaDoor
