/- The reference's Next of chapter 01. -/
import Derived.Test.YtbonnmkkacplgaaGreatDoorLabelASCIICM5
import Derived.Deep.RegionHeld
import Derived.IntWalk
import Derived.Deep.DeepCutAuto
import Derived.Test.YtbonnmkkacplgaaGreatDoorLabelASCIICM2
import Derived.Test.YtbonnmkkacplgaaGreatDoorLabelASCIICM6
import Derived.Test.YtbonnmkkacplgaaGreatDoorLabelASCIICM12
import Derived.Test.YtbonnmkkacplgaaGreatDoorLabelASCIICM8

namespace Go.Proofs.YtbonnmkkacplgaaGreatDoor
open Go.RowKit

theorem bytes_cut (w : World) (b off i k cap : Nat) (s : ByteArray) (hi : i + k ≤ s.size) (hp : BytesIn w b off s) :
    (convert 32 9 (.slice (some ⟨b, off + i, none⟩) k cap)).run Tryz.prog w = .ok (.string (s.extract i (i + k))) w := by
  have hl : s.data.toList.length = s.size := rfl
  have h := run_convert_bytes_back (P := Tryz.prog) w 32 9 5 ⟨b, off + i, none⟩ cap ((s.data.toList.drop i).take k) Tryz.underlying32 Tryz.underlying5 Tryz.underlying9 (fun j hj => by
    have hj' : j < k := by simp [hl] at hj; omega
    have := hp (i + j) (by omega)
    rw [Addr.add_lit, Nat.add_assoc, this]
    have hlt : i + j < s.data.toList.length := by omega
    simp only [byteAt, List.getD, List.getElem_take, List.getElem_drop]
    rw [List.getElem?_eq_getElem hlt]; rfl)
  have hlen : ((s.data.toList.drop i).take k).length = k := by simp [hl]; omega
  rw [hlen] at h
  rw [h, Lib.extract_eq, Nat.add_sub_cancel_left]

def SNext (b off : Nat) (s : ByteArray) (W : World) : Prop := BytesIn W b off s

theorem SNext.put {b off : Nat} {s : ByteArray} {W w2 : World} (h : SNext b off s W) (hb : b < W.heap.size) (h2 : Below W.drew.heap.size W.drew w2) : SNext b off s w2 :=
  BytesIn.below (B := W.heap.size) (w := W) h (((Below.refl W.heap.size W).drew).trans h2) hb

set_option maxHeartbeats 3200000 in
set_option maxRecDepth 100000 in
theorem ref_Next (s : ByteArray) (i b off cap : Nat) (w : World) (hi : i < s.size) (hs : s.size ≤ 16777216) (hc : s.size ≤ cap) (hcap : cap ≤ 9223372036854775807) (hbs : b < w.heap.size) (hp : BytesIn w b off s) :
    Calls Tryz.prog 69 #[.slice (some ⟨b, off, none⟩) s.size cap, .int .i64 (i : Int)] w fun e w' => e = .returned (.tuple #[.int .i64 (refC s i : Int), .int .i64 (refN s i : Int)]) ∧ Below w.heap.size w w' := by
  go_enter Tryz.func69, Tryz.ntmps69
  go_wp2_with fail
  go_loopw [6] (fun k wr => ∃ j : Nat, 1 ≤ j ∧ j ≤ 5 ∧ k = .int .i64 j ∧ (∀ m, 1 ≤ m → m < j → i + m ≤ s.size → ¬ hitB s i m) ∧ Below w.heap.size w wr)
    (fun k _ => 6 - (intOf k).toNat)
  case atStart => exact ⟨1, by omega, by omega, rfl, fun m _ _ => by omega, Below.refl _ _⟩
  case round =>
    obtain ⟨k, hk1, hk5, rfl, hall, hbr⟩ := hrel
    have HA := Lib.hid hall
    clear hall
    by_cases hk4 : k ≤ 4 ∧ i + k ≤ s.size
    · obtain ⟨hk4, hik⟩ := hk4
      have hcx := bytes_cut wr b off i k (cap - i) s hik (hp.below hbr hbs)
      have t1 : (k : Int) ≤ 4 := by omega
      have t2 : (i : Int) + (k : Int) ≤ (s.size : Int) := by omega
      go_wp2_with fail
      refine (ref_guess s i k b off cap _ hk1 hk4 hik (by omega) (hp.below hbr hbs)).mono ?_
      rintro e w2 ⟨rfl, rfl⟩
      generalize hg : guessB s i k = g at *
      have HG := Lib.hid hg
      clear hg
      by_cases hr : rightB g = true
      · have cR : ∀ W : World, Calls Tryz.prog 18 #[.int .i64 g] W fun e w' => e = .returned (.bool true) ∧ W = w' := fun W => (ref_Right g W).mono fun _ _ ⟨a, b⟩ => ⟨by rw [a, hr], b⟩
        have CR := Lib.hid cR
        clear cR
        have hrz := (rightB_iff g).1 hr
        unfold rightZ at hrz
        obtain ⟨hz0, hz1, _⟩ := hrz
        obtain ⟨n, rfl⟩ := Int.eq_ofNat_of_zero_le hz0
        have cP : ∀ W : World, Calls Tryz.prog 19 #[.int .i64 (n : Int)] W fun e w' =>
            ∃ g, e = .returned (.slice (some ⟨g, 0, none⟩) (putL n).length (putL n).length) ∧ Below W.heap.size W w' ∧ (convert 32 9 (.slice (some ⟨g, 0, none⟩) (putL n).length (putL n).length)).run Tryz.prog w' = .ok (.string ⟨(putL n).toArray⟩) w' :=
          fun W => (ref_Put n (by omega) W).mono fun e w' ⟨h1, h2, h3, _⟩ => ⟨_, h1, h2, run_back w' _ _ 5 _ _ _ Tryz.underlying32 Tryz.underlying5 Tryz.underlying9 h3⟩
        have CP := Lib.hid cP
        clear cP
        have HC : ∀ W : World, BytesIn W b off s → (convert 32 9 (.slice (some ⟨b, off + i, none⟩) k (cap - i))).run Tryz.prog W = .ok (.string (s.extract i (i + k))) W := fun W hW => bytes_cut W b off i k (cap - i) s hik hW
        have HD := Lib.hid HC
        clear HC
        have hpr := hp.below hbr hbs
        have hbsr : b < wr.heap.size := Nat.lt_of_lt_of_le hbs hbr.size
        go_upto_region 5 with (fail)
        generalize hps : (⟨(putL n).toArray⟩ : ByteArray) = ps at *
        generalize hxs : s.extract i (i + k) = xs at *
        generalize (putL n).length = ln at *
        have HP := Lib.hid (And.intro hps hxs)
        clear hps hxs
        have z1 : IntKind.i64.wrap ((i : Int) + (k : Int)) = (i : Int) + (k : Int) := IntWalk.i64_in _ (by omega)
        have z2 : (0 : Int) ≤ (i : Int) + (k : Int) := by omega
        have z3 : ((i : Int) + (k : Int)).toNat = i + k := by omega
        have z4 : i + k - i = k := by omega
        have z5 : (0 : Int) ≤ (i : Int) := by omega
        have z6 : (i : Int) ≤ (i : Int) + (k : Int) := by omega
        have z7 : (i : Int) + (k : Int) ≤ (cap : Int) := by omega
        have z8 : ¬ cap = i := by omega
        go_cut [38] (fun c wx => c = .bool (ps.toList == xs.toList) ∧ Below wr.heap.size wr wx)
        case first =>
          have hS0 : SNext b off s wr := hpr
          have hS1 : SNext b off s wr.drew := hpr
          have hcd := HD.out wr.drew hpr
          go_region_held (SNext b off s) (first | exact hp2 | exact hS1)
            (first
            | (go_at_call 18; refine (CR.out _).mono ?_; rintro e w' ⟨rfl, rfl⟩)
            | (go_at_call 19; refine (CP.out _).mono ?_; rintro e w2 ⟨g, rfl, hb2, hB2⟩; have hp2 := hS0.put hbsr hb2; have hc2 := HD.out w2 hp2; have hbw2 := ((Below.refl wr.heap.size wr).drew).trans hb2; clear hb2; dsimp only))
          all_goals clear z1 z2 z3 z4 z5 z6 z7 z8
          all_goals (go_wp2_with fail; go_meet; exact ⟨rfl, hbw2⟩)
        case rest =>
          obtain ⟨rfl, hbx⟩ := hcut
          have hbx := Bt hbr hbx
          clear z1 z2 z3 z4 z5 z6 z7 z8 CP CR HD hcx hpr hbsr
          by_cases hh : ps = xs
          · have hl : (ps.toList == xs.toList) = true := by rw [hh]; exact beq_self_eq_true _
            have hd := hitB_dec (s := s) (i := i) hk1 hk4 hik ⟨by rw [HG.out]; exact hr, by rw [HG.out, Int.toNat_natCast, HP.out.1, HP.out.2, hh]⟩
            rw [HG.out, Int.toNat_natCast] at hd
            have HD := Lib.hid (ref_yes hd)
            clear hd hr
            rw [hl]
            clear hl hh HP HG hp hbs t1 t2 HA
            go_wp2_with fail
            go_ret2
            exact ⟨ret_next HD.out, hbx⟩
          · have hl : (ps.toList == xs.toList) = false := by
              rw [beq_eq_false_iff_ne]
              intro e
              rw [ByteArray.toList_eq, ByteArray.toList_eq] at e
              exact hh (ByteArray.ext (Array.ext' e))
            have hno : ¬ hitB s i k := fun ⟨_, e⟩ => hh (by rw [HG.out, Int.toNat_natCast, HP.out.1, HP.out.2] at e; exact e)
            have hall : ∀ m, 1 ≤ m → m < k + 1 → i + m ≤ s.size → ¬ hitB s i m := fun m h1 h2 h3 => by
              by_cases hmk : m = k
              · rw [hmk]; exact hno
              · exact HA.out m h1 (by omega) h3
            have HALL := Lib.hid hall
            clear hall hno hr hh
            rw [hl]
            clear hl
            go_wp2_with fail
            go_roundw
            case rel => exact ⟨k + 1, by omega, by omega, by go_num, HALL.out, hbx⟩
            case measure => simp [intOf]; omega
      · have hr : rightB g = false := by simpa using hr
        have cR : ∀ W : World, Calls Tryz.prog 18 #[.int .i64 g] W fun e w' => e = .returned (.bool false) ∧ W = w' := fun W => (ref_Right g W).mono fun _ _ ⟨a, b⟩ => ⟨by rw [a, hr], b⟩
        have hno : ¬ hitB s i k := fun ⟨e, _⟩ => by rw [HG.out, hr] at e; cases e
        have hall : ∀ m, 1 ≤ m → m < k + 1 → i + m ≤ s.size → ¬ hitB s i m := fun m h1 h2 h3 => by
          by_cases hmk : m = k
          · rw [hmk]; exact hno
          · exact HA.out m h1 (by omega) h3
        have HALL := Lib.hid hall
        have CR := Lib.hid cR
        clear hall hno hr cR hcx
        go_upto_region 5 with (fail)
        go_cut [38] (fun c wx => c = .bool false ∧ Below wr.heap.size wr wx)
        case first =>
          go_quiet ((go_at_call 18; exact Calls.quiet_of_same ((CR.out _).mono fun _ _ ⟨a, b⟩ => ⟨a, b.symm⟩)))
          go_wp2_with fail
          go_meet
          exact ⟨rfl, below_drewN (Below.refl _ _) _⟩
        case rest =>
          obtain ⟨rfl, hbx⟩ := hcut
          have hbx := Bt hbr hbx
          go_wp2_with fail
          go_roundw
          case rel => exact ⟨k + 1, by omega, by omega, by go_num, HALL.out, hbx⟩
          case measure => simp [intOf]; omega
    · have hno : okB s i = false := no_hit hi fun m h1 h2 h3 => HA.out m h1 (by omega) h3
      have HN := Lib.hid (ref_no hno)
      clear hno
      have hk' : 5 ≤ k ∨ (k ≤ 4 ∧ s.size < i + k) := by omega
      clear hk4
      rcases hk' with h | ⟨h, h'⟩
      all_goals
        go_wp2_with fail
        go_ret2
        exact ⟨ret_next0 HN.out, hbr⟩
end Go.Proofs.YtbonnmkkacplgaaGreatDoor

/- The reference's Text and Chars of chapter 01. -/
namespace Go.Proofs.YtbonnmkkacplgaaGreatDoor
open Go.RowKit

theorem put_sl {w : World} {g d : Nat} (h : BytesAt w g (putL d)) : BytesSl w (.slice (some ⟨g, 0, none⟩) (putL d).length (putL d).length) ⟨(putL d).toArray⟩ := by
  have h5 : (⟨(putL d).toArray⟩ : ByteArray).size = (putL d).length := by show (putL d).toArray.size = _; simp
  have hl := putN_len d
  refine .inr ⟨g, 0, _, by rw [h5], by rw [h5]; exact Nat.le_refl _, by rw [putL_len]; unfold maxLen; omega, h.lt, ?_⟩
  exact BytesAt.isIn (s := ⟨(putL d).toArray⟩) h
theorem putL_le (d : Nat) : (putL d).length ≤ 4 := by rw [putL_len]; exact (putN_len d).2

def RTextPost (l : List Int) (w : World) (e : Ending) (w' : World) : Prop :=
  Below w.heap.size w w' ∧ ((rightLen l = l.length ∧ ∃ v, e = .returned (.tuple #[v, .int .i64 (-1)]) ∧ OwnB w' w.heap.size v (putAll (nats l))) ∨
    (rightLen l < l.length ∧ ∃ a, e = .returned (.tuple #[.slice a 0 0, .int .i64 (rightLen l : Int)])))

set_option maxHeartbeats 1600000 in
theorem ref_Text (x : Value) (l : List Int) (w : World) (hl : l.length ≤ 16777216) (hx : IntsSl w x l) : Calls Tryz.prog 52 #[x] w (RTextPost l w) := by
  rcases hx with ⟨rfl, a, cap, rfl⟩ | ⟨b, off, cap, rfl, hc, hcm, hbs, hp⟩
  · go_enter Tryz.func52, Tryz.ntmps52
    go_wp2_with fail
    refine wp_loop_rounds 1 ?_
    rw [rounds_succ]
    go_wp2_with fail
    go_ret2
    exact ⟨(Below.refl _ _).alloc (Nat.le_refl _) _, .inl ⟨rfl, _, rfl, OwnB.lit w [] #[] 0 rfl rfl (Nat.le_refl _) (by simp)⟩⟩
  · unfold maxLen at hcm
    go_enter Tryz.func52, Tryz.ntmps52
    go_wp2_with fail
    have hlen := putAll_len
    have HL := Lib.hid hlen
    clear hlen
    go_loopw [4, 5] (fun v a wr => ∃ i : Nat, i ≤ l.length ∧ a = .int .i64 i ∧ i ≤ rightLen l ∧ OwnB wr w.heap.size v (putAll (nats (l.take i))) ∧ Below w.heap.size w wr)
      (fun _ a _ => l.length - (intOf a).toNat)
    case atStart => exact ⟨0, Nat.zero_le _, rfl, Nat.zero_le _, OwnB.lit w [] #[] 0 rfl rfl (Nat.le_refl _) (by simp), (Below.refl _ _).alloc (Nat.le_refl _) _⟩
    case round =>
      obtain ⟨i, hil, rfl, hir, hown, hbr⟩ := hrel
      by_cases hlt : i < l.length
      · have hcell : wr.cell? ⟨b, off + i, none⟩ = some (.int .i64 (l.getD i 0)) := (hbr.cell (p := ⟨b, off + i, none⟩) hbs).trans (hp i hlt)
        have hst := rightLen_step l i hir hlt
        have htk := nats_take_succ l i hlt
        have hle : (nats (l.take i)).length ≤ 16777216 := by rw [nats_len, List.length_take]; omega
        generalize l.getD i 0 = c at *
        generalize nats (l.take i) = done at *
        have HT := Lib.hid htk
        clear htk
        by_cases hr : rightB c = true
        · have hst1 := hst.1 hr
          obtain ⟨d, rfl, hd, hd2⟩ := right_nat hr
          have cR := Lib.hid (fun W => hr ▸ ref_Right (d : Int) W)
          have HST := Lib.hid hst1
          clear hr hst hst1 hir
          go_wp2_with fail
          refine (cR.out _).mono ?_
          rintro e w1 ⟨rfl, rfl⟩
          go_wp2_with fail
          refine (ref_Put d (by omega) _).mono ?_
          rintro e w2 ⟨rfl, hb2, hB2, _⟩
          have hy := put_sl hB2
          have hl4 := putL_le d
          have hown2 := hown.below hb2
          have hbr2 := Bt hbr hb2
          clear hown hbr hB2
          go_wp2_with (at_builtin; refine wpList_app_bytes rfl _ _ rfl w.heap.size _ _ rfl hown2 _ ⟨(putL d).toArray⟩ rfl hy (by have := HL.out done; have h5 : (⟨(putL d).toArray⟩ : ByteArray).size = (putL d).length := by { show (putL d).toArray.size = _; simp }; omega) hbr2.size ?_)
          intro v3 w3 hown3 hgr
          have hb3 := hown2.under hbr2 (Nat.le_refl _) hgr
          have ht : putAll done ++ (⟨(putL d).toArray⟩ : ByteArray).data.toList = putAll (nats (l.take (i + 1))) := by rw [HT.out, putAll_app, putAll_one, Int.toNat_natCast]
          rw [ht] at hown3
          clear ht hgr hown2 hy hbr2
          go_wp2_with fail
          go_roundw
          case rel => exact ⟨i + 1, by omega, by go_num, HST.out, hown3, hb3⟩
          case measure => simp [intOf]; omega
        · have hr : rightB c = false := by simpa using hr
          have hst1 := hst.2 hr
          have cR := Lib.hid (fun W => hr ▸ ref_Right c W)
          have HST := Lib.hid hst1
          clear hr hst hst1 hir
          go_wp2_with fail
          refine (cR.out _).mono ?_
          rintro e w1 ⟨rfl, rfl⟩
          go_wp2_with fail
          go_ret2
          exact ⟨hbr.alloc hbr.size _, .inr ⟨by rw [HST.out]; exact hlt, _, by rw [HST.out]; rfl⟩⟩
      · obtain rfl : i = l.length := by omega
        have hrl : rightLen l = l.length := Nat.le_antisymm (rightLen_le l) hir
        have HR := Lib.hid hrl
        rw [List.take_length] at hown
        clear hrl hir
        go_wp2_with fail
        go_ret2
        exact ⟨hbr, .inl ⟨HR.out, _, rfl, hown⟩⟩

def RCharsPost (s : ByteArray) (w : World) (e : Ending) (w' : World) : Prop :=
  Below w.heap.size w w' ∧ (((chrs s).2 = none ∧ ∃ v, e = .returned (.tuple #[v, .int .i64 (-1)]) ∧ w'.ownsRow w.heap.size 3 1 v (chrs s).1.length ((chrs s).1.map intV)) ∨
    (∃ i : Nat, (chrs s).2 = some i ∧ ∃ a, e = .returned (.tuple #[.slice a 0 0, .int .i64 (i : Int)])))

theorem own_empty (w : World) (base : Nat) (hb : base ≤ w.heap.size) : (w.alloc (.cells #[] 3)).ownsRow base 3 1 (.slice (some ⟨w.heap.size, 0, none⟩) 0 0) 0 (([] : List Nat).map intV) :=
  World.ownsRow_lit w #[] 0 hb (Nat.zero_le _) rfl

set_option maxHeartbeats 1600000 in
set_option maxRecDepth 100000 in
theorem ref_Chars (v : Value) (s : ByteArray) (w : World) (hs : s.size ≤ 16777216) (hv : BytesSl w v s) :
    Calls Tryz.prog 37 #[v] w (RCharsPost s w) := by
  rcases hv with ⟨h0, a, cap, rfl⟩ | ⟨b, off, cap, rfl, hc, hcm, hbs, hp⟩
  · have hz := Lib.hid ((Reach.zero s).done (by omega))
    clear h0
    go_enter Tryz.func37, Tryz.ntmps37
    go_wp2_with fail
    refine wp_loop_rounds 1 ?_
    rw [rounds_succ]
    go_wp2_with fail
    go_ret2
    exact ⟨(Below.refl _ _).alloc (Nat.le_refl _) _, .inl ⟨by rw [hz.out], _, rfl, by rw [hz.out]; exact own_empty w _ (Nat.le_refl _)⟩⟩
  · obtain ⟨i0, hi, hz0, hz1, hz2⟩ := info_parts info_int
    unfold maxLen at hcm
    go_enter Tryz.func37, Tryz.ntmps37
    go_wp2_with fail
    go_loopw [4, 5] (fun v a wr => ∃ (i : Nat) (l : List Nat), i ≤ s.size ∧ a = .int .i64 i ∧ Reach s l i ∧ wr.ownsRow w.heap.size 3 1 v l.length (l.map intV) ∧ Below w.heap.size w wr)
      (fun _ a _ => s.size - (intOf a).toNat)
    case atStart => exact ⟨0, [], Nat.zero_le _, rfl, Reach.zero s, own_empty w _ (Nat.le_refl _), (Below.refl _ _).alloc (Nat.le_refl _) _⟩
    case round =>
      obtain ⟨i, l, hil, rfl, hr, hown, hbr⟩ := hrel
      have hll : l.length ≤ i := by obtain ⟨_, _, h, _⟩ := hr; exact h
      have HR := Lib.hid hr
      clear hr
      by_cases hlt : i < s.size
      · obtain ⟨hd1, hd2, hd3, hd4⟩ := decB_bounds s i hlt
        clear hd4
        go_wp2_with fail
        refine (ref_Next s i b off cap _ hlt hs hc hcm (Nat.lt_of_lt_of_le hbs hbr.size) (hp.below hbr hbs)).mono ?_
        rintro e w2 ⟨rfl, hb2⟩
        have hown2 := ownsRow_below hown hb2
        have hbr2 := Bt hbr hb2
        clear hown hbr hb2
        by_cases hok : okB s i = true
        · have hst := HR.out.step hlt hok
          have hrr : (decB s i).1 = refC s i ∧ (decB s i).2 = refN s i := ref_yes ⟨hok, rfl⟩
          rw [← hrr.1, ← hrr.2]
          clear hrr
          generalize (decB s i).1 = c at *
          generalize (decB s i).2 = n at *
          have HST := Lib.hid hst
          have e0 : ((n : Int) == 0) = false := by rw [beq_eq_false_iff_ne]; omega
          clear hst hok
          go_wp2_with (at_builtin; refine wpList_append_own _ rfl _ _ 46 rfl w.heap.size 3 i0 (.int .i64 0) 1 8 Tryz.underlying46 hi hz0 hz1 hz2 rfl (by decide) _ _ _ rfl (hown2.alloc _) ⟨w2.heap.size, 0, none⟩ 1 1 [intV c] rfl rfl ?c1 ?c2 ?c3 ?c4 ?c5 ?_)
          case c1 =>
            intro j u hj
            match j, hj with
            | 0, hj => simp at hj; subst hj; simp [Addr.add, intV]
          case c2 => intro u hu; simp at hu; subst hu; rfl
          case c3 => unfold maxLen; omega
          case c4 => omega
          case c5 => have := hbr2.size; simp; omega
          intro v1 w3 hown3 hg3 _
          have hbr3 := below_app hbr2 hown2 (Nat.le_refl _) hg3
          clear hg3 hown2 hbr2
          go_wp2_with fail
          go_roundw
          case rel => exact ⟨i + n, l ++ [c], by omega, by go_num, HST.out, by simpa using hown3, hbr3⟩
          case measure => simp [intOf]; omega
        · have hok : okB s i = false := by simpa using hok
          have hb := Lib.hid (HR.out.bad hlt hok)
          have hrr := ref_no hok
          rw [← hrr.1, ← hrr.2]
          clear hrr hok
          go_wp2_with fail
          go_ret2
          exact ⟨hbr2.alloc hbr2.size _, .inr ⟨i, by rw [hb.out], _, rfl⟩⟩
      · have hb := Lib.hid (HR.out.done hlt)
        obtain rfl : i = s.size := by omega
        go_wp2_with fail
        go_ret2
        exact ⟨hbr, .inl ⟨by rw [hb.out], _, rfl, by rw [hb.out]; exact hown⟩⟩
end Go.Proofs.YtbonnmkkacplgaaGreatDoor

/- The reference's Char of chapter 10. -/
namespace Go.Proofs.YtbonnmkkacplgaaGreatDoor
open Go.RowKit

set_option maxHeartbeats 6400000 in
set_option maxRecDepth 100000 in
theorem ref10_Char (c : Int) (w : World) (h1 : -9223372036854775808 ≤ c) (h2 : c ≤ 9223372036854775807) :
    Calls Tryz.prog 17 #[.int .i64 c] w fun e w' => e = .returned (.bool (charZ c)) ∧ w = w' := by
  by_cases d0 : ¬ c ≥ 223
  · have f0 : ¬ c ≥ 12293 := by omega
    have f1 : ¬ c ≥ 63744 := by omega
    have f2 : ¬ c ≥ 65536 := by omega
    have HV := Lib.hid (show charZ c = false from decide_eq_false (by unfold inSpan; omega))
    go_enter Tryz.func17, Tryz.ntmps17
    go_wp2_with fail
    go_ret
    exact ⟨ret_bool HV.out.symm, rfl⟩
  by_cases d1 : c ≤ 12287
  · by_cases e0 : c = 247
    · have f0 : (c != 247) = false := by rw [bne_eq_false_iff_eq]; omega
      have HV := Lib.hid (show charZ c = false from decide_eq_false (by unfold inSpan; omega))
      clear e0
      go_enter Tryz.func17, Tryz.ntmps17
      go_wp2_with fail
      go_ret
      exact ⟨ret_bool HV.out.symm, rfl⟩
    by_cases e1 : c < 8192
    · have f0 : (c != 247) = true := by rw [bne_iff_ne]; omega
      have HV := Lib.hid (show charZ c = true from decide_eq_true (by unfold inSpan; omega))
      go_enter Tryz.func17, Tryz.ntmps17
      go_wp2_with fail
      go_ret
      exact ⟨ret_bool HV.out.symm, rfl⟩
    by_cases e2 : c > 11263
    · have f0 : (c != 247) = true := by rw [bne_iff_ne]; omega
      have HV := Lib.hid (show charZ c = true from decide_eq_true (by unfold inSpan; omega))
      go_enter Tryz.func17, Tryz.ntmps17
      go_wp2_with fail
      go_ret
      exact ⟨ret_bool HV.out.symm, rfl⟩
    have f0 : (c != 247) = true := by rw [bne_iff_ne]; omega
    have HV := Lib.hid (show charZ c = false from decide_eq_false (by unfold inSpan; omega))
    go_enter Tryz.func17, Tryz.ntmps17
    go_wp2_with fail
    go_ret
    exact ⟨ret_bool HV.out.symm, rfl⟩
  by_cases d2 : ¬ c ≥ 12293
  · have f0 : ¬ c ≥ 63744 := by omega
    have f1 : ¬ c ≥ 65536 := by omega
    have HV := Lib.hid (show charZ c = false from decide_eq_false (by unfold inSpan; omega))
    go_enter Tryz.func17, Tryz.ntmps17
    go_wp2_with fail
    go_ret
    exact ⟨ret_bool HV.out.symm, rfl⟩
  by_cases d3 : c ≤ 55295
  · have HV := Lib.hid (show charZ c = true from decide_eq_true (by unfold inSpan; omega))
    go_enter Tryz.func17, Tryz.ntmps17
    go_wp2_with fail
    go_ret
    exact ⟨ret_bool HV.out.symm, rfl⟩
  by_cases d4 : ¬ c ≥ 63744
  · have f0 : ¬ c ≥ 65536 := by omega
    have HV := Lib.hid (show charZ c = false from decide_eq_false (by unfold inSpan; omega))
    go_enter Tryz.func17, Tryz.ntmps17
    go_wp2_with fail
    go_ret
    exact ⟨ret_bool HV.out.symm, rfl⟩
  by_cases d5 : c ≤ 65023
  · by_cases e0 : c < 64976
    · have HV := Lib.hid (show charZ c = true from decide_eq_true (by unfold inSpan; omega))
      go_enter Tryz.func17, Tryz.ntmps17
      go_wp2_with fail
      go_ret
      exact ⟨ret_bool HV.out.symm, rfl⟩
    by_cases e1 : c > 65007
    · have HV := Lib.hid (show charZ c = true from decide_eq_true (by unfold inSpan; omega))
      go_enter Tryz.func17, Tryz.ntmps17
      go_wp2_with fail
      go_ret
      exact ⟨ret_bool HV.out.symm, rfl⟩
    have HV := Lib.hid (show charZ c = false from decide_eq_false (by unfold inSpan; omega))
    go_enter Tryz.func17, Tryz.ntmps17
    go_wp2_with fail
    go_ret
    exact ⟨ret_bool HV.out.symm, rfl⟩
  by_cases d6 : ¬ c ≥ 65536
  · have HV := Lib.hid (show charZ c = false from decide_eq_false (by unfold inSpan; omega))
    go_enter Tryz.func17, Tryz.ntmps17
    go_wp2_with fail
    go_ret
    exact ⟨ret_bool HV.out.symm, rfl⟩
  by_cases d7 : ¬ c ≤ 262143
  · have HV := Lib.hid (show charZ c = false from decide_eq_false (by unfold inSpan; omega))
    go_enter Tryz.func17, Tryz.ntmps17
    go_wp2_with fail
    go_ret
    exact ⟨ret_bool HV.out.symm, rfl⟩
  by_cases e0 : c % 65536 = 65534
  · have f0 : (c % 65536 != 65534) = false := by rw [bne_eq_false_iff_eq]; omega
    have HV := Lib.hid (show charZ c = false from decide_eq_false (by unfold inSpan; omega))
    clear e0
    go_enter Tryz.func17, Tryz.ntmps17
    go_wp2_with fail
    go_ret
    exact ⟨ret_bool HV.out.symm, rfl⟩
  by_cases e1 : c % 65536 = 65535
  · have f0 : (c % 65536 != 65534) = true := by rw [bne_iff_ne]; omega
    have f1 : (c % 65536 != 65535) = false := by rw [bne_eq_false_iff_eq]; omega
    have HV := Lib.hid (show charZ c = false from decide_eq_false (by unfold inSpan; omega))
    clear e1
    go_enter Tryz.func17, Tryz.ntmps17
    go_wp2_with fail
    go_ret
    exact ⟨ret_bool HV.out.symm, rfl⟩
  have f0 : (c % 65536 != 65534) = true := by rw [bne_iff_ne]; omega
  have f1 : (c % 65536 != 65535) = true := by rw [bne_iff_ne]; omega
  have HV := Lib.hid (show charZ c = true from decide_eq_true (by unfold inSpan; omega))
  go_enter Tryz.func17, Tryz.ntmps17
  go_wp2_with fail
  go_ret
  exact ⟨ret_bool HV.out.symm, rfl⟩
end Go.Proofs.YtbonnmkkacplgaaGreatDoor

/- The reference's value, threshold, number of chapter 09. -/
namespace Go.Proofs.YtbonnmkkacplgaaGreatDoor
open Go.RowKit

def digs09 : ByteArray := ⟨#[97, 98, 99, 100, 101, 102, 103, 104, 105, 106, 107, 108, 109, 110, 111, 112, 113, 114, 115, 116, 117, 118, 119, 120, 121, 122, 48, 49, 50, 51, 52, 53, 54, 55, 56, 57]⟩
def valM (n : Nat) : Nat := if 65 ≤ n ∧ n ≤ 90 then n - 65 else if 97 ≤ n ∧ n ≤ 122 then n - 97 else if 48 ≤ n ∧ n ≤ 57 then n - 48 + 26 else 99
theorem valM_of (c : UInt8) : valN c = if valM c.toNat < 36 then some (valM c.toNat) else none := by
  unfold valN valM
  split
  · rw [if_pos (by omega)]
  · split
    · rw [if_pos (by omega)]
    · split
      · rw [if_pos (by omega)]
      · rw [if_neg (by omega)]
theorem digs09_find (n : Nat) (hn : n < 256) (hg : ¬ (65 ≤ n ∧ n ≤ 90)) : (∀ k, k < 36 → ((digs09.data.toList.getD k 0).toNat = n ↔ valM n = k)) ∧ (valM n < 36 ∨ valM n = 99) := by
  have : ∀ n : Fin 256, ¬ (65 ≤ n.1 ∧ n.1 ≤ 90) → (∀ k : Fin 36, ((digs09.data.toList.getD k.1 0).toNat = n.1 ↔ valM n.1 = k.1)) ∧ (valM n.1 < 36 ∨ valM n.1 = 99) := by decide +kernel
  have h := this ⟨n, hn⟩ hg
  exact ⟨fun k hk => h.1 ⟨k, hk⟩, h.2⟩
def valZ (n : Nat) : Int := if valM n < 36 then (valM n : Int) else -1

set_option maxHeartbeats 1600000 in
set_option maxRecDepth 100000 in
theorem ref09_value (n : Nat) (hn : n < 256) (w : World) : Calls Tryz.prog 132 #[.int .u8 (n : Int)] w fun e w' => e = .returned (.int .i64 (valZ n)) ∧ ∃ q, w.drewN q = w' := by
  by_cases hg : 65 ≤ n ∧ n ≤ 90
  · obtain ⟨g1, g2⟩ := hg
    have g1I : (n : Int) ≥ 65 := by omega
    have g2I : (n : Int) ≤ 90 := by omega
    have hv : valZ n = (n : Int) - 65 := by
      have hm : valM n = n - 65 := by unfold valM; rw [if_pos ⟨g1, g2⟩]
      unfold valZ
      rw [hm, if_pos (by omega)]
      omega
    have HV := Lib.hid hv
    clear hv
    go_enter Tryz.func132, Tryz.ntmps132
    go_wp2_with fail
    go_ret
    exact ⟨ret_i64 (by rw [HV.out]), 0, rfl⟩
  obtain ⟨hf, hv⟩ := digs09_find n hn hg
  have HF := Lib.hid hf
  have HG := Lib.hid hg
  clear hf hg
  by_cases g1 : (n : Int) ≥ 65
  all_goals
    try have g2 : ¬ (n : Int) ≤ 90 := by have := HG.out; omega
    go_enter Tryz.func132, Tryz.ntmps132
    go_wp2_with fail
    go_loopw [3] (fun i wr => ∃ k q : Nat, k ≤ 36 ∧ i = .int .i64 k ∧ (∀ j, j < k → valM n ≠ j) ∧ w.drewN q = wr) (fun i _ => 36 - (intOf i).toNat)
    case atStart => exact ⟨0, 0, by omega, rfl, fun j hj => by omega, rfl⟩
    case round =>
      obtain ⟨k, q, hk, rfl, hall, hwr⟩ := hrel
      have HW := Lib.hid hwr
      have HA := Lib.hid hall
      clear hall hwr
      by_cases hlt : k < 36
      · have hcond := HF.out k hlt
        have i1 : (k : Int) < 36 := by omega
        have hbk : (digs09.data.toList.getD k 0) = (⟨#[97, 98, 99, 100, 101, 102, 103, 104, 105, 106, 107, 108, 109, 110, 111, 112, 113, 114, 115, 116, 117, 118, 119, 120, 121, 122, 48, 49, 50, 51, 52, 53, 54, 55, 56, 57]⟩ : ByteArray)[k]'hlt := by
          simp [digs09, List.getD, hlt]; rfl
        rw [hbk] at hcond
        clear hbk
        by_cases hc : valM n = k
        · have e1 := hcond.2 hc
          have e2 : ((((⟨#[97, 98, 99, 100, 101, 102, 103, 104, 105, 106, 107, 108, 109, 110, 111, 112, 113, 114, 115, 116, 117, 118, 119, 120, 121, 122, 48, 49, 50, 51, 52, 53, 54, 55, 56, 57]⟩ : ByteArray)[k]'hlt).toNat : Int) == (n : Int)) = true := by
            rw [beq_iff_eq]; exact_mod_cast e1
          have HC := Lib.hid hc
          clear hc hcond e1
          go_wp2_with fail
          go_ret
          exact ⟨ret_i64 (by unfold valZ; rw [HC.out, if_pos hlt]), _, HW.out⟩
        · have e2 : ((((⟨#[97, 98, 99, 100, 101, 102, 103, 104, 105, 106, 107, 108, 109, 110, 111, 112, 113, 114, 115, 116, 117, 118, 119, 120, 121, 122, 48, 49, 50, 51, 52, 53, 54, 55, 56, 57]⟩ : ByteArray)[k]'hlt).toNat : Int) == (n : Int)) = false := by
            rw [beq_eq_false_iff_ne]
            intro h
            exact hc (hcond.1 (by exact_mod_cast h))
          have HC := Lib.hid hc
          clear hc hcond
          go_wp2_with fail
          go_roundw
          case rel => exact ⟨k + 1, _, by omega, by go_num, fun j hj => by
            by_cases hjk : j = k
            · subst hjk; exact HC.out
            · exact HA.out j (by omega), HW.out⟩
          case measure => simp [intOf]; omega
      · obtain rfl : k = 36 := by omega
        have h99 : valM n = 99 := by
          rcases hv with h | h
          · exact absurd rfl (HA.out _ h)
          · exact h
        have H99 := Lib.hid h99
        clear h99 hv
        go_wp2_with fail
        go_ret
        exact ⟨ret_i64 (by unfold valZ; rw [H99.out]; rfl), _, HW.out⟩
set_option maxHeartbeats 800000 in
theorem ref09_threshold (k b : Nat) (w : World) (hk : k ≤ 1000000) (hb : b ≤ 1000000000000) :
    Calls Tryz.prog 96 #[.int .i64 (k : Int), .int .i64 (b : Int)] w fun e w' => e = .returned (.int .i64 ((thrN k b : Nat) : Int)) ∧ w = w' := by
  by_cases h1 : (k : Int) - (b : Int) < 1
  · have HT := Lib.hid (show thrN k b = 1 by unfold thrN; omega)
    go_enter Tryz.func96, Tryz.ntmps96
    go_wp2_with fail
    go_ret
    exact ⟨ret_i64 (by rw [HT.out]; rfl), rfl⟩
  by_cases h2 : (k : Int) - (b : Int) > 26
  · have HT := Lib.hid (show thrN k b = 26 by unfold thrN; omega)
    go_enter Tryz.func96, Tryz.ntmps96
    go_wp2_with fail
    go_ret
    exact ⟨ret_i64 (by rw [HT.out]; rfl), rfl⟩
  have HT := Lib.hid (show ((thrN k b : Nat) : Int) = (k : Int) - (b : Int) by unfold thrN; omega)
  go_enter Tryz.func96, Tryz.ntmps96
  go_wp2_with fail
  go_ret
  exact ⟨ret_i64 HT.out.symm, rfl⟩
end Go.Proofs.YtbonnmkkacplgaaGreatDoor
