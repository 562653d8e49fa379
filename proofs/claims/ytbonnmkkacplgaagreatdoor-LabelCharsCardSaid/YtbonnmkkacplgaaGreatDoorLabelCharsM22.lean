/- The reference's Text and Chars of chapter 01. -/
import Derived.Test.YtbonnmkkacplgaaGreatDoorLabelCharsM2
import Derived.Test.YtbonnmkkacplgaaGreatDoorLabelCharsM6
import Derived.Test.YtbonnmkkacplgaaGreatDoorLabelCharsM21
import Derived.Test.YtbonnmkkacplgaaGreatDoorLabelCharsM12
import Derived.Test.YtbonnmkkacplgaaGreatDoorLabelCharsM16
import Derived.BigQuiet

namespace Go.Proofs.YtbonnmkkacplgaaGreatDoor
open Go.RowKit

theorem put_sl {w : World} {g d : Nat} (h : BytesAt w g (putL d)) : BytesSl w (.slice (some ⟨g, 0, none⟩) (putL d).length (putL d).length) ⟨(putL d).toArray⟩ := by
  have h5 : (⟨(putL d).toArray⟩ : ByteArray).size = (putL d).length := by show (putL d).toArray.size = _; simp
  have hl := putN_len d
  refine .inr ⟨g, 0, _, by rw [h5], by rw [h5]; exact Nat.le_refl _, by rw [putL_len]; unfold maxLen; omega, h.lt, ?_⟩
  exact BytesAt.isIn (s := ⟨(putL d).toArray⟩) h
theorem putL_le (d : Nat) : (putL d).length ≤ 4 := by rw [putL_len]; exact (putN_len d).2

def RTextPost (l : List Int) (w : World) (e : Ending) (w' : World) : Prop :=
  Below w.heap.size w w' ∧ ((rightLen l = l.length ∧ ∃ v, e = .returned (.tuple #[v, .int .i64 (-1)]) ∧ OwnB w' w.heap.size v (putAll (nats l))) ∨
    (rightLen l < l.length ∧ ∃ a, e = .returned (.tuple #[.slice a 0 0, .int .i64 (rightLen l : Int)])))

set_option maxHeartbeats 1600000 in
theorem ref_Text (x : Value) (l : List Int) (w : World) (hl : l.length ≤ 16777216) (hx : IntsSl w x l) : Calls Tryz.prog 52 #[x] w (RTextPost l w) := by
  rcases hx with ⟨rfl, a, cap, rfl⟩ | ⟨b, off, cap, rfl, hc, hcm, hbs, hp⟩
  · go_enter Tryz.func52, Tryz.ntmps52
    go_wp2_with fail
    refine wp_loop_rounds 1 ?_
    rw [rounds_succ]
    go_wp2_with fail
    go_ret2
    exact ⟨(Below.refl _ _).alloc (Nat.le_refl _) _, .inl ⟨rfl, _, rfl, OwnB.lit w [] #[] 0 rfl rfl (Nat.le_refl _) (by simp)⟩⟩
  · unfold maxLen at hcm
    go_enter Tryz.func52, Tryz.ntmps52
    go_wp2_with fail
    have hlen := putAll_len
    have HL := Lib.hid hlen
    clear hlen
    go_loopw [4, 5] (fun v a wr => ∃ i : Nat, i ≤ l.length ∧ a = .int .i64 i ∧ i ≤ rightLen l ∧ OwnB wr w.heap.size v (putAll (nats (l.take i))) ∧ Below w.heap.size w wr)
      (fun _ a _ => l.length - (intOf a).toNat)
    case atStart => exact ⟨0, Nat.zero_le _, rfl, Nat.zero_le _, OwnB.lit w [] #[] 0 rfl rfl (Nat.le_refl _) (by simp), (Below.refl _ _).alloc (Nat.le_refl _) _⟩
    case round =>
      obtain ⟨i, hil, rfl, hir, hown, hbr⟩ := hrel
      by_cases hlt : i < l.length
      · have hcell : wr.cell? ⟨b, off + i, none⟩ = some (.int .i64 (l.getD i 0)) := (hbr.cell (p := ⟨b, off + i, none⟩) hbs).trans (hp i hlt)
        have hst := rightLen_step l i hir hlt
        have htk := nats_take_succ l i hlt
        have hle : (nats (l.take i)).length ≤ 16777216 := by rw [nats_len, List.length_take]; omega
        generalize l.getD i 0 = c at *
        generalize nats (l.take i) = done at *
        have HT := Lib.hid htk
        clear htk
        by_cases hr : rightB c = true
        · have hst1 := hst.1 hr
          obtain ⟨d, rfl, hd, hd2⟩ := right_nat hr
          have cR := Lib.hid (fun W => hr ▸ ref_Right (d : Int) W)
          have HST := Lib.hid hst1
          clear hr hst hst1 hir
          go_wp2_with fail
          refine (cR.out _).mono ?_
          rintro e w1 ⟨rfl, rfl⟩
          go_wp2_with fail
          refine (ref_Put d (by omega) _).mono ?_
          rintro e w2 ⟨rfl, hb2, hB2, _⟩
          have hy := put_sl hB2
          have hl4 := putL_le d
          have hown2 := hown.below hb2
          have hbr2 := Bt hbr hb2
          clear hown hbr hB2
          go_wp2_with (at_builtin; refine wpList_app_bytes rfl _ _ rfl w.heap.size _ _ rfl hown2 _ ⟨(putL d).toArray⟩ rfl hy (by have := HL.out done; have h5 : (⟨(putL d).toArray⟩ : ByteArray).size = (putL d).length := by { show (putL d).toArray.size = _; simp }; omega) hbr2.size ?_)
          intro v3 w3 hown3 hgr
          have hb3 := hown2.under hbr2 (Nat.le_refl _) hgr
          have ht : putAll done ++ (⟨(putL d).toArray⟩ : ByteArray).data.toList = putAll (nats (l.take (i + 1))) := by rw [HT.out, putAll_app, putAll_one, Int.toNat_natCast]
          rw [ht] at hown3
          clear ht hgr hown2 hy hbr2
          go_wp2_with fail
          go_roundw
          case rel => exact ⟨i + 1, by omega, by go_num, HST.out, hown3, hb3⟩
          case measure => simp [intOf]; omega
        · have hr : rightB c = false := by simpa using hr
          have hst1 := hst.2 hr
          have cR := Lib.hid (fun W => hr ▸ ref_Right c W)
          have HST := Lib.hid hst1
          clear hr hst hst1 hir
          go_wp2_with fail
          refine (cR.out _).mono ?_
          rintro e w1 ⟨rfl, rfl⟩
          go_wp2_with fail
          go_ret2
          exact ⟨hbr.alloc hbr.size _, .inr ⟨by rw [HST.out]; exact hlt, _, by rw [HST.out]; rfl⟩⟩
      · obtain rfl : i = l.length := by omega
        have hrl : rightLen l = l.length := Nat.le_antisymm (rightLen_le l) hir
        have HR := Lib.hid hrl
        rw [List.take_length] at hown
        clear hrl hir
        go_wp2_with fail
        go_ret2
        exact ⟨hbr, .inl ⟨HR.out, _, rfl, hown⟩⟩

def RCharsPost (s : ByteArray) (w : World) (e : Ending) (w' : World) : Prop :=
  Below w.heap.size w w' ∧ (((chrs s).2 = none ∧ ∃ v, e = .returned (.tuple #[v, .int .i64 (-1)]) ∧ w'.ownsRow w.heap.size 3 1 v (chrs s).1.length ((chrs s).1.map intV)) ∨
    (∃ i : Nat, (chrs s).2 = some i ∧ ∃ a, e = .returned (.tuple #[.slice a 0 0, .int .i64 (i : Int)])))

theorem own_empty (w : World) (base : Nat) (hb : base ≤ w.heap.size) : (w.alloc (.cells #[] 3)).ownsRow base 3 1 (.slice (some ⟨w.heap.size, 0, none⟩) 0 0) 0 (([] : List Nat).map intV) :=
  World.ownsRow_lit w #[] 0 hb (Nat.zero_le _) rfl

set_option maxHeartbeats 1600000 in
set_option maxRecDepth 100000 in
theorem ref_Chars (v : Value) (s : ByteArray) (w : World) (hs : s.size ≤ 16777216) (hv : BytesSl w v s) :
    Calls Tryz.prog 37 #[v] w (RCharsPost s w) := by
  rcases hv with ⟨h0, a, cap, rfl⟩ | ⟨b, off, cap, rfl, hc, hcm, hbs, hp⟩
  · have hz := Lib.hid ((Reach.zero s).done (by omega))
    clear h0
    go_enter Tryz.func37, Tryz.ntmps37
    go_wp2_with fail
    refine wp_loop_rounds 1 ?_
    rw [rounds_succ]
    go_wp2_with fail
    go_ret2
    exact ⟨(Below.refl _ _).alloc (Nat.le_refl _) _, .inl ⟨by rw [hz.out], _, rfl, by rw [hz.out]; exact own_empty w _ (Nat.le_refl _)⟩⟩
  · obtain ⟨i0, hi, hz0, hz1, hz2⟩ := info_parts info_int
    unfold maxLen at hcm
    go_enter Tryz.func37, Tryz.ntmps37
    go_wp2_with fail
    go_loopw [4, 5] (fun v a wr => ∃ (i : Nat) (l : List Nat), i ≤ s.size ∧ a = .int .i64 i ∧ Reach s l i ∧ wr.ownsRow w.heap.size 3 1 v l.length (l.map intV) ∧ Below w.heap.size w wr)
      (fun _ a _ => s.size - (intOf a).toNat)
    case atStart => exact ⟨0, [], Nat.zero_le _, rfl, Reach.zero s, own_empty w _ (Nat.le_refl _), (Below.refl _ _).alloc (Nat.le_refl _) _⟩
    case round =>
      obtain ⟨i, l, hil, rfl, hr, hown, hbr⟩ := hrel
      have hll : l.length ≤ i := by obtain ⟨_, _, h, _⟩ := hr; exact h
      have HR := Lib.hid hr
      clear hr
      by_cases hlt : i < s.size
      · obtain ⟨hd1, hd2, hd3, hd4⟩ := decB_bounds s i hlt
        clear hd4
        go_wp2_with fail
        refine (ref_Next s i b off cap _ hlt hs hc hcm (Nat.lt_of_lt_of_le hbs hbr.size) (hp.below hbr hbs)).mono ?_
        rintro e w2 ⟨rfl, hb2⟩
        have hown2 := ownsRow_below hown hb2
        have hbr2 := Bt hbr hb2
        clear hown hbr hb2
        by_cases hok : okB s i = true
        · have hst := HR.out.step hlt hok
          have hrr : (decB s i).1 = refC s i ∧ (decB s i).2 = refN s i := ref_yes ⟨hok, rfl⟩
          rw [← hrr.1, ← hrr.2]
          clear hrr
          generalize (decB s i).1 = c at *
          generalize (decB s i).2 = n at *
          have HST := Lib.hid hst
          have e0 : ((n : Int) == 0) = false := by rw [beq_eq_false_iff_ne]; omega
          clear hst hok
          go_wp2_with (at_builtin; refine wpList_append_own _ rfl _ _ 46 rfl w.heap.size 3 i0 (.int .i64 0) 1 8 Tryz.underlying46 hi hz0 hz1 hz2 rfl (by decide) _ _ _ rfl (hown2.alloc _) ⟨w2.heap.size, 0, none⟩ 1 1 [intV c] rfl rfl ?c1 ?c2 ?c3 ?c4 ?c5 ?_)
          case c1 =>
            intro j u hj
            match j, hj with
            | 0, hj => simp at hj; subst hj; simp [Addr.add, intV]
          case c2 => intro u hu; simp at hu; subst hu; rfl
          case c3 => unfold maxLen; omega
          case c4 => omega
          case c5 => have := hbr2.size; simp; omega
          intro v1 w3 hown3 hg3 _
          have hbr3 := below_app hbr2 hown2 (Nat.le_refl _) hg3
          clear hg3 hown2 hbr2
          go_wp2_with fail
          go_roundw
          case rel => exact ⟨i + n, l ++ [c], by omega, by go_num, HST.out, by simpa using hown3, hbr3⟩
          case measure => simp [intOf]; omega
        · have hok : okB s i = false := by simpa using hok
          have hb := Lib.hid (HR.out.bad hlt hok)
          have hrr := ref_no hok
          rw [← hrr.1, ← hrr.2]
          clear hrr hok
          go_wp2_with fail
          go_ret2
          exact ⟨hbr2.alloc hbr2.size _, .inr ⟨i, by rw [hb.out], _, rfl⟩⟩
      · have hb := Lib.hid (HR.out.done hlt)
        obtain rfl : i = s.size := by omega
        go_wp2_with fail
        go_ret2
        exact ⟨hbr, .inl ⟨by rw [hb.out], _, rfl, by rw [hb.out]; exact hown⟩⟩
end Go.Proofs.YtbonnmkkacplgaaGreatDoor

/- The walk of LabelChars. -/
namespace Go.Proofs.YtbonnmkkacplgaaGreatDoor
open Go.RowKit

theorem puts_conv10 (d : Nat) (hd : d < 1114112) (W : World) : Calls Tryz.prog 19 #[.int .i64 (d : Int)] W fun e w' =>
    ∃ g, e = .returned (.slice (some ⟨g, 0, none⟩) (putL d).length (putL d).length) ∧ Below W.heap.size W w' ∧ (convert 32 9 (.slice (some ⟨g, 0, none⟩) (putL d).length (putL d).length)).run Tryz.prog w' = .ok (.string ⟨(putL d).toArray⟩) w' :=
  (ref_Put d hd W).mono fun e w' ⟨h1, h2, h3, _⟩ => ⟨_, h1, h2, run_back w' _ _ 5 _ _ _ Tryz.underlying32 Tryz.underlying5 Tryz.underlying9 h3⟩
theorem ascii_of_char {c : Nat} (h : 128 ≤ c) (hr : rightB (c : Int) = true) (h2 : c ≤ 1114111) (W : World) (hS : SpanLaid W) (hU : Utf8Laid W) :
    Calls Tryz.prog 10 #[.string ((⟨#[97]⟩ : ByteArray) ++ ⟨(putL c).toArray⟩)] W fun e w' => Below W.heap.size W w' ∧
      ((charZ (c : Int) = true ∧ ∃ t : ByteArray, e = .returned (.tuple #[.string t, .nilIface]) ∧ 5 < t.size ∧ (t.extract 0 4).toList = [120, 110, 45, 45]) ∨
       (charZ (c : Int) = false ∧ ∃ p, e = .returned (.tuple #[.string ⟨#[]⟩, .iface 77 p]))) := by
  have hp := putN_len c
  rw [← putL_len] at hp
  have hl4 := putL_le c
  have e0 : (⟨#[97]⟩ : ByteArray) ++ ⟨(putL c).toArray⟩ = ⟨(97 :: putL c).toArray⟩ := by
    apply ba_ext
    rw [data_append]
    rfl
  rw [e0]
  refine (label_ASCII _ W hS hU ?_).mono ?_
  · show (97 :: putL c).toArray.size ≤ 100000
    simp
    omega
  · rintro e w' ⟨hb, hq⟩
    refine ⟨hb, ?_⟩
    rw [ascii_char h hr h2] at hq
    rcases ascii_two h h2 with ⟨hz, t, h1, h3⟩ | ⟨hz, k, i, h1⟩
    · left
      refine ⟨hz, t, ?_, h3⟩
      rcases hq with ⟨k, i, v, h4, _⟩ | ⟨t', h4, he⟩
      · rw [h1] at h4; cases h4
      · rw [h1] at h4
        have h4 := Except.ok.inj h4
        rw [h4]
        exact he
    · right
      refine ⟨hz, ?_⟩
      rcases hq with ⟨k', i', v, h4, _, he, hv⟩ | ⟨t', h4, he⟩
      · obtain ⟨p, rfl⟩ := hv.ne_nil
        exact ⟨p, he⟩
      · rw [h1] at h4; cases h4
set_option maxHeartbeats 3200000 in
set_option maxRecDepth 100000 in
theorem walkLabelChars (c : Int) (w : World) (hH : Handle w) (hU : Utf8Laid w) (hS : SpanLaid w) (hw : (Lit.int .i64 c).wf = true) :
    Calls Tryz.prog 5 #[.int .i64 c] w fun e w' => e = .returned (.bool true) ∧ Below w.heap.size w w' := by
  have hz1 : -9223372036854775808 ≤ c ∧ c ≤ 9223372036854775807 := by
    simpa [Lit.wf, IntKind.min, IntKind.max, IntKind.signed, IntKind.bits] using hw
  clear hw
  have c1 := Lib.hid (fun W h1 h2 h3 => speaks10 W h1 h2 h3)
  have c2 := Lib.hid (fun W h => label_Char c W h hz1.1 hz1.2)
  have c3 := Lib.hid (fun W => ref10_Char c W hz1.1 hz1.2)
  have c5 : ∀ W : World, Calls Tryz.prog 17 #[.int .i64 c] W fun e w' => e = .returned (.bool (charZ c)) ∧ w' = W := fun W => (ref10_Char c W hz1.1 hz1.2).mono fun _ _ ⟨a, b⟩ => ⟨a, b.symm⟩
  have c4 := Lib.hid c5
  clear c5
  by_cases hr : rightB c = true
  · have cR : ∀ W : World, Calls Tryz.prog 18 #[.int .i64 c] W fun e w' => e = .returned (.bool true) ∧ W = w' := fun W => (ref_Right _ W).mono fun _ _ ⟨a, b⟩ => ⟨by rw [a, hr], b⟩
    have CR := Lib.hid cR
    clear cR
    obtain ⟨d, rfl, hd, hd2⟩ := right_nat hr
    have CA := Lib.hid (fun (h : 128 ≤ d) => ascii_of_char h hr hd2)
    have CP := Lib.hid (puts_conv10 d (by omega))
    have hz4 : (⟨(putL d).toArray⟩ : ByteArray).size ≤ 4 := by
      have := putN_len d
      rw [← putL_len] at this
      have := putL_le d
      show (putL d).toArray.size ≤ 4
      simp
      omega
    clear hr hd
    generalize charZ (d : Int) = z at *
    generalize (⟨(putL d).toArray⟩ : ByteArray) = ps at *
    go_enter Tryz.func5, Tryz.ntmps5
    go_wp2_with fail
    refine (c1.out _ hH hS hU).mono ?_
    rintro e w1 ⟨rfl, hb1⟩
    have hS := hS.below hb1
    have hU := hU.below hb1
    go_wp2_with fail
    refine (c2.out _ hS).mono ?_
    rintro e w2 ⟨rfl, hb2⟩
    have hS := hS.below hb2
    have hU := hU.below hb2
    have hb := Bt hb1 hb2
    clear hb1 hb2
    go_wp2_with fail
    refine (c3.out _).mono ?_
    rintro e w3 ⟨rfl, rfl⟩
    go_wp2_with fail
    refine (CR.out _).mono ?_
    rintro e w3 ⟨rfl, rfl⟩
    by_cases h : 128 ≤ d
    · have t1 : ¬ (d : Int) < 128 := by omega
      go_wp2_with fail
      refine (CP.out _).mono ?_
      rintro e w3 ⟨g, rfl, hb3, hcv⟩
      have hS := hS.below hb3
      have hU := hU.below hb3
      have hb := Bt hb hb3
      clear hb3
      go_wp2_with fail
      refine (CA.out h _ hS hU).mono ?_
      rintro e w4 ⟨hb4, hA⟩
      have hb := Bt hb hb4
      clear hb4
      rcases hA with ⟨hz, t, rfl, h5, h6⟩ | ⟨hz, p, rfl⟩
      · subst hz
        have t2 : (5 : Int) < (t.size : Int) := by omega
        have t3 : (4 : Int) ≤ (t.size : Int) := by omega
        go_wp2_with fail
        go_quiet ((go_at_call 17; exact Calls.quiet_of_same (c4.out _)))
        go_wp2_with fail
        go_ret
        exact ⟨rfl, below_drewN hb _⟩
      · subst hz
        go_wp2_with fail
        go_quiet ((go_at_call 17; exact Calls.quiet_of_same (c4.out _)))
        go_wp2_with fail
        go_ret
        exact ⟨rfl, below_drewN hb _⟩
    · have t1 : (d : Int) < 128 := by omega
      go_wp2_with fail
      go_ret
      exact ⟨rfl, hb⟩
  · have hr : rightB c = false := by simpa using hr
    have cR : ∀ W : World, Calls Tryz.prog 18 #[.int .i64 c] W fun e w' => e = .returned (.bool false) ∧ W = w' := fun W => (ref_Right _ W).mono fun _ _ ⟨a, b⟩ => ⟨by rw [a, hr], b⟩
    have CR := Lib.hid cR
    clear cR hr
    generalize charZ c = z at *
    go_enter Tryz.func5, Tryz.ntmps5
    go_wp2_with fail
    refine (c1.out _ hH hS hU).mono ?_
    rintro e w1 ⟨rfl, hb1⟩
    have hS := hS.below hb1
    go_wp2_with fail
    refine (c2.out _ hS).mono ?_
    rintro e w2 ⟨rfl, hb2⟩
    have hb := Bt hb1 hb2
    go_wp2_with fail
    refine (c3.out _).mono ?_
    rintro e w3 ⟨rfl, rfl⟩
    go_wp2_with fail
    refine (CR.out _).mono ?_
    rintro e w3 ⟨rfl, rfl⟩
    go_wp2_with fail
    go_ret
    exact ⟨rfl, hb⟩
end Go.Proofs.YtbonnmkkacplgaaGreatDoor
