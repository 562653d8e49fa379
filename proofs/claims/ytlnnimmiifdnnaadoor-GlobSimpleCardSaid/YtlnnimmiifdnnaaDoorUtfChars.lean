/- utf.Chars: all characters of bytes. -/
import Derived.Test.YtlnnimmiifdnnaaDoorUtfNext
import Derived.Test.YtlnnimmiifdnnaaDoorInts
namespace Go.Proofs.YtlnnimmiifdnnaaDoor
open Go.RowKit

def CharsPost (s : ByteArray) (w : World) (e : Ending) (w' : World) : Prop :=
  Below w.heap.size w w' ∧ (((chrs s).2 = none ∧ ∃ v, e = .returned (.tuple #[v, .nilIface]) ∧ w'.ownsRow w.heap.size 3 1 v (chrs s).1.length ((chrs s).1.map intV)) ∨
    (∃ i, (chrs s).2 = some i ∧ ∃ v, e = .returned (.tuple #[.slice none 0 0, v]) ∧ IsFault w' v 12 i))

set_option maxHeartbeats 1600000 in
set_option maxRecDepth 100000 in
theorem utf_Chars (v : Value) (s : ByteArray) (w : World) (hU : Utf8Laid w) (hs : s.size ≤ 16777216) (hv : BytesSl w v s) :
    Calls Tryd.prog 26 #[v] w (CharsPost s w) := by
  rcases hv with ⟨h0, a, cap, rfl⟩ | ⟨b, off, cap, rfl, hc, hcm, hbs, hp⟩
  · have hz := Lib.hid ((Reach.zero s).done (by omega))
    clear h0
    go_enter Tryd.func26, Tryd.ntmps26
    go_wp2_with fail
    refine wp_loop_rounds 1 ?_
    rw [rounds_succ]
    go_wp2_with fail
    go_ret2
    exact ⟨Below.refl _ _, .inl ⟨by rw [hz.out], _, rfl, by rw [hz.out]; exact World.ownsRow_nil _ _ _ _⟩⟩
  · obtain ⟨i0, hi, hz0, hz1, hz2⟩ := info_parts info_int
    unfold maxLen at hcm
    go_enter Tryd.func26, Tryd.ntmps26
    go_wp2_with fail
    go_loopw [4, 5] (fun v a wr => ∃ (i : Nat) (l : List Nat), i ≤ s.size ∧ a = .int .i64 i ∧ Reach s l i ∧ wr.ownsRow w.heap.size 3 1 v l.length (l.map intV) ∧ Below w.heap.size w wr)
      (fun _ a _ => s.size - (intOf a).toNat)
    case atStart => exact ⟨0, [], Nat.zero_le _, rfl, Reach.zero s, World.ownsRow_nil _ _ _ _, Below.refl _ _⟩
    case round =>
      obtain ⟨i, l, hil, rfl, hr, hown, hbr⟩ := hrel
      have hll : l.length ≤ i := by obtain ⟨_, _, h, _⟩ := hr; exact h
      have HR := Lib.hid hr
      clear hr
      by_cases hlt : i < s.size
      · obtain ⟨hd1, hd2, hd3, hd4⟩ := decB_bounds s i hlt
        clear hd4
        go_wp2_with fail
        refine (utf_Next s i b off cap _ (hU.below hbr) hlt hc hcm (hp.below hbr hbs)).mono ?_
        rintro e w2 ⟨hb2, h⟩
        have hown2 := ownsRow_below hown hb2
        have hbr2 := Bt hbr hb2
        clear hown hbr hb2
        rcases h with ⟨hok, rfl⟩ | ⟨hok, v, rfl, hv⟩
        · have hst := HR.out.step hlt hok
          generalize (decB s i).1 = c at *
          generalize (decB s i).2 = n at *
          have HST := Lib.hid hst
          clear hst hok
          go_wp2_with (at_builtin; refine wpList_append_own _ rfl _ _ 24 rfl w.heap.size 3 i0 (.int .i64 0) 1 8 Tryd.underlying24 hi hz0 hz1 hz2 rfl (by decide) _ _ _ rfl (hown2.alloc _) ⟨w2.heap.size, 0, none⟩ 1 1 [intV c] rfl rfl ?c1 ?c2 ?c3 ?c4 ?c5 ?_)
          case c1 =>
            intro j u hj
            match j, hj with
            | 0, hj => simp at hj; subst hj; simp [Addr.add, intV]
          case c2 => intro u hu; simp at hu; subst hu; rfl
          case c3 => unfold maxLen; omega
          case c4 => omega
          case c5 => have := hbr2.size; simp; omega
          intro v1 w3 hown3 hg3 _
          have hbr3 := below_app hbr2 hown2 (Nat.le_refl _) hg3
          clear hg3 hown2 hbr2
          go_wp2_with fail
          go_roundw
          case rel => exact ⟨i + n, l ++ [c], by omega, by go_num, HST.out, by simpa using hown3, hbr3⟩
          case measure => simp [intOf]; omega
        · obtain ⟨p, rfl⟩ := hv.ne_nil
          have hb := Lib.hid (HR.out.bad hlt hok)
          clear hok
          go_wp2_with fail
          go_ret2
          exact ⟨hbr2, .inr ⟨i, by rw [hb.out], _, rfl, hv⟩⟩
      · have hb := Lib.hid (HR.out.done hlt)
        obtain rfl : i = s.size := by omega
        go_wp2_with fail
        go_ret2
        exact ⟨hbr, .inl ⟨by rw [hb.out], _, rfl, by rw [hb.out]; exact hown⟩⟩

def ValidPost (s : ByteArray) (w : World) (e : Ending) (w' : World) : Prop :=
  Below w.heap.size w w' ∧ (((chrs s).2 = none ∧ e = .returned .nilIface) ∨ (∃ i, (chrs s).2 = some i ∧ ∃ v, e = .returned v ∧ IsFault w' v 12 i))
set_option maxHeartbeats 800000 in
theorem utf_Valid (v : Value) (s : ByteArray) (w : World) (hU : Utf8Laid w) (hs : s.size ≤ 16777216) (hv : BytesSl w v s) :
    Calls Tryd.prog 38 #[v] w (ValidPost s w) := by
  go_enter Tryd.func38, Tryd.ntmps38
  go_wp2_with fail
  refine (utf_Chars v s _ hU hs hv).mono ?_
  rintro e w2 ⟨hb2, h⟩
  rcases h with ⟨hn, v2, rfl, _⟩ | ⟨i, hi, v2, rfl, hv2⟩
  · have HN := Lib.hid hn
    clear hn
    go_wp2_with fail
    go_ret
    exact ⟨hb2, .inl ⟨HN.out, rfl⟩⟩
  · have HN := Lib.hid hi
    clear hi
    go_wp2_with fail
    go_ret
    exact ⟨hb2, .inr ⟨i, HN.out, _, rfl, hv2⟩⟩
end Go.Proofs.YtlnnimmiifdnnaaDoor
