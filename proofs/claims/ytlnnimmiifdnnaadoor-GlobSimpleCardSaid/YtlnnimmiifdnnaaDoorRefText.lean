/- The reference's Text and Chars of chapter 01. -/
import Derived.Test.YtlnnimmiifdnnaaDoorInts
import Derived.Test.YtlnnimmiifdnnaaDoorUtfPut
import Derived.Test.YtlnnimmiifdnnaaDoorRefNext
import Derived.Test.YtlnnimmiifdnnaaDoorUnder
namespace Go.Proofs.YtlnnimmiifdnnaaDoor
open Go.RowKit

theorem put_sl {w : World} {g d : Nat} (h : BytesAt w g (putL d)) : BytesSl w (.slice (some ⟨g, 0, none⟩) (putL d).length (putL d).length) ⟨(putL d).toArray⟩ := by
  have h5 : (⟨(putL d).toArray⟩ : ByteArray).size = (putL d).length := by show (putL d).toArray.size = _; simp
  have hl := putN_len d
  refine .inr ⟨g, 0, _, by rw [h5], by rw [h5]; exact Nat.le_refl _, by rw [putL_len]; unfold maxLen; omega, h.lt, ?_⟩
  exact BytesAt.isIn (s := ⟨(putL d).toArray⟩) h
theorem putL_le (d : Nat) : (putL d).length ≤ 4 := by rw [putL_len]; exact (putN_len d).2


def RCharsPost (s : ByteArray) (w : World) (e : Ending) (w' : World) : Prop :=
  Below w.heap.size w w' ∧ (((chrs s).2 = none ∧ ∃ v, e = .returned (.tuple #[v, .int .i64 (-1)]) ∧ w'.ownsRow w.heap.size 3 1 v (chrs s).1.length ((chrs s).1.map intV)) ∨
    (∃ i : Nat, (chrs s).2 = some i ∧ ∃ a, e = .returned (.tuple #[.slice a 0 0, .int .i64 (i : Int)])))

theorem own_empty (w : World) (base : Nat) (hb : base ≤ w.heap.size) : (w.alloc (.cells #[] 3)).ownsRow base 3 1 (.slice (some ⟨w.heap.size, 0, none⟩) 0 0) 0 (([] : List Nat).map intV) :=
  World.ownsRow_lit w #[] 0 hb (Nat.zero_le _) rfl

set_option maxHeartbeats 1600000 in
set_option maxRecDepth 100000 in
theorem ref_Chars (v : Value) (s : ByteArray) (w : World) (hs : s.size ≤ 16777216) (hv : BytesSl w v s) :
    Calls Tryd.prog 10 #[v] w (RCharsPost s w) := by
  rcases hv with ⟨h0, a, cap, rfl⟩ | ⟨b, off, cap, rfl, hc, hcm, hbs, hp⟩
  · have hz := Lib.hid ((Reach.zero s).done (by omega))
    clear h0
    go_enter Tryd.func10, Tryd.ntmps10
    go_wp2_with fail
    refine wp_loop_rounds 1 ?_
    rw [rounds_succ]
    go_wp2_with fail
    go_ret2
    exact ⟨(Below.refl _ _).alloc (Nat.le_refl _) _, .inl ⟨by rw [hz.out], _, rfl, by rw [hz.out]; exact own_empty w _ (Nat.le_refl _)⟩⟩
  · obtain ⟨i0, hi, hz0, hz1, hz2⟩ := info_parts info_int
    unfold maxLen at hcm
    go_enter Tryd.func10, Tryd.ntmps10
    go_wp2_with fail
    go_loopw [4, 5] (fun v a wr => ∃ (i : Nat) (l : List Nat), i ≤ s.size ∧ a = .int .i64 i ∧ Reach s l i ∧ wr.ownsRow w.heap.size 3 1 v l.length (l.map intV) ∧ Below w.heap.size w wr)
      (fun _ a _ => s.size - (intOf a).toNat)
    case atStart => exact ⟨0, [], Nat.zero_le _, rfl, Reach.zero s, own_empty w _ (Nat.le_refl _), (Below.refl _ _).alloc (Nat.le_refl _) _⟩
    case round =>
      obtain ⟨i, l, hil, rfl, hr, hown, hbr⟩ := hrel
      have hll : l.length ≤ i := by obtain ⟨_, _, h, _⟩ := hr; exact h
      have HR := Lib.hid hr
      clear hr
      by_cases hlt : i < s.size
      · obtain ⟨hd1, hd2, hd3, hd4⟩ := decB_bounds s i hlt
        clear hd4
        go_wp2_with fail
        refine (ref_Next s i b off cap _ hlt hs hc hcm (Nat.lt_of_lt_of_le hbs hbr.size) (hp.below hbr hbs)).mono ?_
        rintro e w2 ⟨rfl, hb2⟩
        have hown2 := ownsRow_below hown hb2
        have hbr2 := Bt hbr hb2
        clear hown hbr hb2
        by_cases hok : okB s i = true
        · have hst := HR.out.step hlt hok
          have hrr : (decB s i).1 = refC s i ∧ (decB s i).2 = refN s i := ref_yes ⟨hok, rfl⟩
          rw [← hrr.1, ← hrr.2]
          clear hrr
          generalize (decB s i).1 = c at *
          generalize (decB s i).2 = n at *
          have HST := Lib.hid hst
          have e0 : ((n : Int) == 0) = false := by rw [beq_eq_false_iff_ne]; omega
          clear hst hok
          go_wp2_with (at_builtin; refine wpList_append_own _ rfl _ _ 24 rfl w.heap.size 3 i0 (.int .i64 0) 1 8 Tryd.underlying24 hi hz0 hz1 hz2 rfl (by decide) _ _ _ rfl (hown2.alloc _) ⟨w2.heap.size, 0, none⟩ 1 1 [intV c] rfl rfl ?c1 ?c2 ?c3 ?c4 ?c5 ?_)
          case c1 =>
            intro j u hj
            match j, hj with
            | 0, hj => simp at hj; subst hj; simp [Addr.add, intV]
          case c2 => intro u hu; simp at hu; subst hu; rfl
          case c3 => unfold maxLen; omega
          case c4 => omega
          case c5 => have := hbr2.size; simp; omega
          intro v1 w3 hown3 hg3 _
          have hbr3 := below_app hbr2 hown2 (Nat.le_refl _) hg3
          clear hg3 hown2 hbr2
          go_wp2_with fail
          go_roundw
          case rel => exact ⟨i + n, l ++ [c], by omega, by go_num, HST.out, by simpa using hown3, hbr3⟩
          case measure => simp [intOf]; omega
        · have hok : okB s i = false := by simpa using hok
          have hb := Lib.hid (HR.out.bad hlt hok)
          have hrr := ref_no hok
          rw [← hrr.1, ← hrr.2]
          clear hrr hok
          go_wp2_with fail
          go_ret2
          exact ⟨hbr2.alloc hbr2.size _, .inr ⟨i, by rw [hb.out], _, rfl⟩⟩
      · have hb := Lib.hid (HR.out.done hlt)
        obtain rfl : i = s.size := by omega
        go_wp2_with fail
        go_ret2
        exact ⟨hbr, .inl ⟨by rw [hb.out], _, rfl, by rw [hb.out]; exact hown⟩⟩
end Go.Proofs.YtlnnimmiifdnnaaDoor
