/- The reference's Text and Chars of chapter 01. -/
import Derived.Test.YtkgifenidmbdkaaGreatDoorSubstMatchesM6
import Derived.Test.YtkgifenidmbdkaaGreatDoorSubstMatchesM9
import Derived.Test.YtkgifenidmbdkaaGreatDoorSubstMatchesM5
import Derived.Test.YtkgifenidmbdkaaGreatDoorSubstMatchesM3
import Derived.Test.YtkgifenidmbdkaaGreatDoorSubstMatchesM1
import Derived.Test.YtkgifenidmbdkaaGreatDoorSubstMatchesM4
import Derived.Test.YtkgifenidmbdkaaGreatDoorSubstMatchesM7
import Derived.Test.YtkgifenidmbdkaaGreatDoorShelf
import Derived.Lib.IndexLaws

namespace Go.Proofs.YtkgifenidmbdkaaGreatDoor
open Go.RowKit

theorem put_sl {w : World} {g d : Nat} (h : BytesAt w g (putL d)) : BytesSl w (.slice (some ⟨g, 0, none⟩) (putL d).length (putL d).length) ⟨(putL d).toArray⟩ := by
  have h5 : (⟨(putL d).toArray⟩ : ByteArray).size = (putL d).length := by show (putL d).toArray.size = _; simp
  have hl := putN_len d
  refine .inr ⟨g, 0, _, by rw [h5], by rw [h5]; exact Nat.le_refl _, by rw [putL_len]; unfold maxLen; omega, h.lt, ?_⟩
  exact BytesAt.isIn (s := ⟨(putL d).toArray⟩) h
theorem putL_le (d : Nat) : (putL d).length ≤ 4 := by rw [putL_len]; exact (putN_len d).2

def RTextPost (l : List Int) (w : World) (e : Ending) (w' : World) : Prop :=
  Below w.heap.size w w' ∧ ((rightLen l = l.length ∧ ∃ v, e = .returned (.tuple #[v, .int .i64 (-1)]) ∧ OwnB w' w.heap.size v (putAll (nats l))) ∨
    (rightLen l < l.length ∧ ∃ a, e = .returned (.tuple #[.slice a 0 0, .int .i64 (rightLen l : Int)])))

set_option maxHeartbeats 1600000 in
theorem ref_Text (x : Value) (l : List Int) (w : World) (hl : l.length ≤ 16777216) (hx : IntsSl w x l) : Calls Tryz.prog 155 #[x] w (RTextPost l w) := by
  rcases hx with ⟨rfl, a, cap, rfl⟩ | ⟨b, off, cap, rfl, hc, hcm, hbs, hp⟩
  · go_enter Tryz.func155, Tryz.ntmps155
    go_wp2_with fail
    refine wp_loop_rounds 1 ?_
    rw [rounds_succ]
    go_wp2_with fail
    go_ret2
    exact ⟨(Below.refl _ _).alloc (Nat.le_refl _) _, .inl ⟨rfl, _, rfl, OwnB.lit w [] #[] 0 rfl rfl (Nat.le_refl _) (by simp)⟩⟩
  · unfold maxLen at hcm
    go_enter Tryz.func155, Tryz.ntmps155
    go_wp2_with fail
    have hlen := putAll_len
    have HL := Lib.hid hlen
    clear hlen
    go_loopw [4, 5] (fun v a wr => ∃ i : Nat, i ≤ l.length ∧ a = .int .i64 i ∧ i ≤ rightLen l ∧ OwnB wr w.heap.size v (putAll (nats (l.take i))) ∧ Below w.heap.size w wr)
      (fun _ a _ => l.length - (intOf a).toNat)
    case atStart => exact ⟨0, Nat.zero_le _, rfl, Nat.zero_le _, OwnB.lit w [] #[] 0 rfl rfl (Nat.le_refl _) (by simp), (Below.refl _ _).alloc (Nat.le_refl _) _⟩
    case round =>
      obtain ⟨i, hil, rfl, hir, hown, hbr⟩ := hrel
      by_cases hlt : i < l.length
      · have hcell : wr.cell? ⟨b, off + i, none⟩ = some (.int .i64 (l.getD i 0)) := (hbr.cell (p := ⟨b, off + i, none⟩) hbs).trans (hp i hlt)
        have hst := rightLen_step l i hir hlt
        have htk := nats_take_succ l i hlt
        have hle : (nats (l.take i)).length ≤ 16777216 := by rw [nats_len, List.length_take]; omega
        generalize l.getD i 0 = c at *
        generalize nats (l.take i) = done at *
        have HT := Lib.hid htk
        clear htk
        by_cases hr : rightB c = true
        · have hst1 := hst.1 hr
          obtain ⟨d, rfl, hd, hd2⟩ := right_nat hr
          have cR := Lib.hid (fun W => hr ▸ ref_Right (d : Int) W)
          have HST := Lib.hid hst1
          clear hr hst hst1 hir
          go_wp2_with fail
          refine (cR.out _).mono ?_
          rintro e w1 ⟨rfl, rfl⟩
          go_wp2_with fail
          refine (ref_Put d (by omega) _).mono ?_
          rintro e w2 ⟨rfl, hb2, hB2, _⟩
          have hy := put_sl hB2
          have hl4 := putL_le d
          have hown2 := hown.below hb2
          have hbr2 := Bt hbr hb2
          clear hown hbr hB2
          go_wp2_with (at_builtin; refine wpList_app_bytes rfl _ _ rfl w.heap.size _ _ rfl hown2 _ ⟨(putL d).toArray⟩ rfl hy (by have := HL.out done; have h5 : (⟨(putL d).toArray⟩ : ByteArray).size = (putL d).length := by { show (putL d).toArray.size = _; simp }; omega) hbr2.size ?_)
          intro v3 w3 hown3 hgr
          have hb3 := hown2.under hbr2 (Nat.le_refl _) hgr
          have ht : putAll done ++ (⟨(putL d).toArray⟩ : ByteArray).data.toList = putAll (nats (l.take (i + 1))) := by rw [HT.out, putAll_app, putAll_one, Int.toNat_natCast]
          rw [ht] at hown3
          clear ht hgr hown2 hy hbr2
          go_wp2_with fail
          go_roundw
          case rel => exact ⟨i + 1, by omega, by go_num, HST.out, hown3, hb3⟩
          case measure => simp [intOf]; omega
        · have hr : rightB c = false := by simpa using hr
          have hst1 := hst.2 hr
          have cR := Lib.hid (fun W => hr ▸ ref_Right c W)
          have HST := Lib.hid hst1
          clear hr hst hst1 hir
          go_wp2_with fail
          refine (cR.out _).mono ?_
          rintro e w1 ⟨rfl, rfl⟩
          go_wp2_with fail
          go_ret2
          exact ⟨hbr.alloc hbr.size _, .inr ⟨by rw [HST.out]; exact hlt, _, by rw [HST.out]; rfl⟩⟩
      · obtain rfl : i = l.length := by omega
        have hrl : rightLen l = l.length := Nat.le_antisymm (rightLen_le l) hir
        have HR := Lib.hid hrl
        rw [List.take_length] at hown
        clear hrl hir
        go_wp2_with fail
        go_ret2
        exact ⟨hbr, .inl ⟨HR.out, _, rfl, hown⟩⟩

def RCharsPost (s : ByteArray) (w : World) (e : Ending) (w' : World) : Prop :=
  Below w.heap.size w w' ∧ (((chrs s).2 = none ∧ ∃ v, e = .returned (.tuple #[v, .int .i64 (-1)]) ∧ w'.ownsRow w.heap.size 3 1 v (chrs s).1.length ((chrs s).1.map intV)) ∨
    (∃ i : Nat, (chrs s).2 = some i ∧ ∃ a, e = .returned (.tuple #[.slice a 0 0, .int .i64 (i : Int)])))

theorem own_empty (w : World) (base : Nat) (hb : base ≤ w.heap.size) : (w.alloc (.cells #[] 3)).ownsRow base 3 1 (.slice (some ⟨w.heap.size, 0, none⟩) 0 0) 0 (([] : List Nat).map intV) :=
  World.ownsRow_lit w #[] 0 hb (Nat.zero_le _) rfl

set_option maxHeartbeats 1600000 in
set_option maxRecDepth 100000 in
theorem ref_Chars (v : Value) (s : ByteArray) (w : World) (hs : s.size ≤ 16777216) (hv : BytesSl w v s) :
    Calls Tryz.prog 50 #[v] w (RCharsPost s w) := by
  rcases hv with ⟨h0, a, cap, rfl⟩ | ⟨b, off, cap, rfl, hc, hcm, hbs, hp⟩
  · have hz := Lib.hid ((Reach.zero s).done (by omega))
    clear h0
    go_enter Tryz.func50, Tryz.ntmps50
    go_wp2_with fail
    refine wp_loop_rounds 1 ?_
    rw [rounds_succ]
    go_wp2_with fail
    go_ret2
    exact ⟨(Below.refl _ _).alloc (Nat.le_refl _) _, .inl ⟨by rw [hz.out], _, rfl, by rw [hz.out]; exact own_empty w _ (Nat.le_refl _)⟩⟩
  · obtain ⟨i0, hi, hz0, hz1, hz2⟩ := info_parts info_int
    unfold maxLen at hcm
    go_enter Tryz.func50, Tryz.ntmps50
    go_wp2_with fail
    go_loopw [4, 5] (fun v a wr => ∃ (i : Nat) (l : List Nat), i ≤ s.size ∧ a = .int .i64 i ∧ Reach s l i ∧ wr.ownsRow w.heap.size 3 1 v l.length (l.map intV) ∧ Below w.heap.size w wr)
      (fun _ a _ => s.size - (intOf a).toNat)
    case atStart => exact ⟨0, [], Nat.zero_le _, rfl, Reach.zero s, own_empty w _ (Nat.le_refl _), (Below.refl _ _).alloc (Nat.le_refl _) _⟩
    case round =>
      obtain ⟨i, l, hil, rfl, hr, hown, hbr⟩ := hrel
      have hll : l.length ≤ i := by obtain ⟨_, _, h, _⟩ := hr; exact h
      have HR := Lib.hid hr
      clear hr
      by_cases hlt : i < s.size
      · obtain ⟨hd1, hd2, hd3, hd4⟩ := decB_bounds s i hlt
        clear hd4
        go_wp2_with fail
        refine (ref_Next s i b off cap _ hlt hs hc hcm (Nat.lt_of_lt_of_le hbs hbr.size) (hp.below hbr hbs)).mono ?_
        rintro e w2 ⟨rfl, hb2⟩
        have hown2 := ownsRow_below hown hb2
        have hbr2 := Bt hbr hb2
        clear hown hbr hb2
        by_cases hok : okB s i = true
        · have hst := HR.out.step hlt hok
          have hrr : (decB s i).1 = refC s i ∧ (decB s i).2 = refN s i := ref_yes ⟨hok, rfl⟩
          rw [← hrr.1, ← hrr.2]
          clear hrr
          generalize (decB s i).1 = c at *
          generalize (decB s i).2 = n at *
          have HST := Lib.hid hst
          have e0 : ((n : Int) == 0) = false := by rw [beq_eq_false_iff_ne]; omega
          clear hst hok
          go_wp2_with (at_builtin; refine wpList_append_own _ rfl _ _ 103 rfl w.heap.size 3 i0 (.int .i64 0) 1 8 Tryz.underlying103 hi hz0 hz1 hz2 rfl (by decide) _ _ _ rfl (hown2.alloc _) ⟨w2.heap.size, 0, none⟩ 1 1 [intV c] rfl rfl ?c1 ?c2 ?c3 ?c4 ?c5 ?_)
          case c1 =>
            intro j u hj
            match j, hj with
            | 0, hj => simp at hj; subst hj; simp [Addr.add, intV]
          case c2 => intro u hu; simp at hu; subst hu; rfl
          case c3 => unfold maxLen; omega
          case c4 => omega
          case c5 => have := hbr2.size; simp; omega
          intro v1 w3 hown3 hg3 _
          have hbr3 := below_app hbr2 hown2 (Nat.le_refl _) hg3
          clear hg3 hown2 hbr2
          go_wp2_with fail
          go_roundw
          case rel => exact ⟨i + n, l ++ [c], by omega, by go_num, HST.out, by simpa using hown3, hbr3⟩
          case measure => simp [intOf]; omega
        · have hok : okB s i = false := by simpa using hok
          have hb := Lib.hid (HR.out.bad hlt hok)
          have hrr := ref_no hok
          rw [← hrr.1, ← hrr.2]
          clear hrr hok
          go_wp2_with fail
          go_ret2
          exact ⟨hbr2.alloc hbr2.size _, .inr ⟨i, by rw [hb.out], _, rfl⟩⟩
      · have hb := Lib.hid (HR.out.done hlt)
        obtain rfl : i = s.size := by omega
        go_wp2_with fail
        go_ret2
        exact ⟨hbr, .inl ⟨by rw [hb.out], _, rfl, by rw [hb.out]; exact hown⟩⟩
end Go.Proofs.YtkgifenidmbdkaaGreatDoor

/- A string's bytes, as a slice that reads as the string. -/
namespace Go.Proofs.YtkgifenidmbdkaaGreatDoor
open Go.RowKit

section
variable {P : Program}
theorem wpList_bytes_sl {ops : Array Oper} {rest : List Oper} {o : Oper} {a : Act} {w : World} {Q : Exit → Act → World → Prop} (hgd : o.guard = none) (src dst e : TypeId) (x : Operand)
    (ho : o.op = .convert src dst x) (s : ByteArray) (hx : a.eval x = .string s) (hs : P.underlying src = some .string) (hd : P.underlying dst = some (.slice e)) (he : P.underlying e = some (.int .u8)) (hm : s.size ≤ 140737488351232)
    (h : ∀ (v : Value) (w' : World), BytesSl w' v s → Below w.heap.size w w' → wpList P ops Q rest (a.put o.dst v) w') : wpList P ops Q (o :: rest) a w := by
  refine wpList_plain hgd fun K hK => ?_
  unfold Oper.wp execOp
  have hr := run_bytes_of_string (P := P) w src dst e s hs hd he
  simp only [ho, hx, Sem.run_bind, hr, Result.andThen_ok, Sem.run_pure]
  refine hK _ _ (h _ _ (.inr ⟨w.heap.size, 0, grownCap w s.size 0 e, rfl, grownCap_ge w s.size 0 e, grownCap_le_maxLen w s.size 0 e (by unfold maxLen; omega), by simp, BytesAt.isIn ?_⟩) ((((Below.refl _ _).drew).alloc (Nat.le_refl _) _)))
  refine ⟨e, List.replicate (grownCap w s.size 0 e - s.size) (Value.int .u8 0), _, s.data.toList.length + (List.replicate (grownCap w s.size 0 e - s.size) (Value.int .u8 0)).length + 1, .inr (Nat.le_refl _), ?_⟩
  refine (heap_alloc_new w.drew _).trans ?_
  have hb : bytesRow s (grownCap w s.size 0 e) = (List.map byteV s.data.toList ++ List.replicate (grownCap w s.size 0 e - s.size) (Value.int .u8 0)).toArray := by
    unfold bytesRow
    apply Array.ext'
    simp [byteV]
  have hsz : (bytesRow s (grownCap w s.size 0 e)).size = s.data.toList.length + (List.replicate (grownCap w s.size 0 e - s.size) (Value.int .u8 0)).length := by
    rw [hb]; simp
  rw [hsz, hb]
end
end Go.Proofs.YtkgifenidmbdkaaGreatDoor

/- The reference's Small. -/
namespace Go.Proofs.YtkgifenidmbdkaaGreatDoor
open Go.RowKit

def smallN (n : Nat) : Nat := if 65 ≤ n ∧ n ≤ 90 then n + 32 else n
theorem ret_u8 {a b : Int} (h : a = b) : Ending.returned (.int .u8 a) = .returned (.int .u8 b) := by rw [h]
theorem ref_Small (n : Nat) (hn : n < 256) (w : World) : Calls Tryz.prog 129 #[.int .u8 (n : Int)] w fun e w' => e = .returned (.int .u8 (smallN n : Nat)) ∧ w = w' := by
  by_cases h1 : 65 ≤ n
  · by_cases h2 : n ≤ 90
    · have hv := Lib.hid (show smallN n = n + 32 by unfold smallN; rw [if_pos ⟨h1, h2⟩])
      go_enter Tryz.func129, Tryz.ntmps129
      go_wp2
      go_ret
      exact ⟨ret_u8 (by rw [hv.out]; omega), rfl⟩
    · have hv := Lib.hid (show smallN n = n by unfold smallN; rw [if_neg (by omega)])
      go_enter Tryz.func129, Tryz.ntmps129
      go_wp2
      go_ret
      exact ⟨ret_u8 (by rw [hv.out]), rfl⟩
  · have hv := Lib.hid (show smallN n = n by unfold smallN; rw [if_neg (by omega)])
    go_enter Tryz.func129, Tryz.ntmps129
    go_wp2
    go_ret
    exact ⟨ret_u8 (by rw [hv.out]), rfl⟩
end Go.Proofs.YtkgifenidmbdkaaGreatDoor

/- glob.Check, glob.small; the reference's Check, same. -/
namespace Go.Proofs.YtkgifenidmbdkaaGreatDoor
open Go.RowKit

/-- What is wrong with a pattern: the error's number, its place. -/
def chkP (p : ByteArray) : Nat × Nat := if 1024 < p.size then (14, 1024) else match (chrs p).2 with
  | none => (0, 0)
  | some i => (12, i)
theorem chkP_ok (p : ByteArray) : (chkP p).1 = 0 ↔ okP p = true := by
  unfold chkP okP
  by_cases h : 1024 < p.size
  · rw [if_pos h]; simp; omega
  · rw [if_neg h]
    cases hx : (chrs p).2 with
    | none => simp; omega
    | some i => simp

theorem IsFault.isErr {w : World} {v : Value} {k i : Nat} (h : IsFault w v (k : Int) (i : Int)) (hk : k ≠ 0) : IsErr w v k i := .inr ⟨hk, _, h⟩

def CheckPost (p : ByteArray) (w : World) (e : Ending) (w' : World) : Prop := Below w.heap.size w w' ∧ ((okP p = true ∧ chkP p = (0, 0) ∧ e = .returned .nilIface) ∨ (okP p = false ∧ (chkP p).1 ≠ 0 ∧ ∃ v, e = .returned v ∧ IsFault w' v (chkP p).1 (chkP p).2))

set_option maxHeartbeats 800000 in
theorem glob_Check (p : ByteArray) (w : World) (hU : Utf8Laid w) (hp : p.size ≤ 16777216) : Calls Tryz.prog 41 #[.string p] w (CheckPost p w) := by
  by_cases hlong : 1024 < p.size
  · have h1 : chkP p = (14, 1024) := by unfold chkP; rw [if_pos hlong]
    have h2 : okP p = false := by unfold okP; rw [decide_eq_false (by omega), Bool.false_and]
    have H1 := Lib.hid h1
    have H2 := Lib.hid h2
    clear h1 h2
    go_enter Tryz.func41, Tryz.ntmps41
    go_wp2_with fail
    refine (api_Fail' 14 1024 _).mono ?_
    rintro e w1 ⟨v, rfl, hv, hb⟩
    go_wp2_with fail
    go_ret
    exact ⟨hb, .inr ⟨H2.out, by rw [H1.out]; simp, v, rfl, by rw [H1.out]; exact hv⟩⟩
  · have h1 : ∀ r, (chrs p).2 = r → chkP p = match r with | none => (0, 0) | some i => (12, i) := by rintro r rfl; unfold chkP; rw [if_neg hlong]
    have h2 : ∀ r, (chrs p).2 = r → okP p = r.isNone := by rintro r rfl; unfold okP; rw [decide_eq_true (by omega), Bool.true_and]
    have H1 := Lib.hid h1
    have H2 := Lib.hid h2
    clear h1 h2
    go_enter Tryz.func41, Tryz.ntmps41
    go_wp2_with ((with_reducible refine wpList_bytes_sl rfl 9 106 5 _ rfl p rfl Tryz.underlying9 Tryz.underlying106 Tryz.underlying5 (by omega) ?_); intro v1 w1 hv1 hb1)
    have hU1 := hU.below hb1
    refine (utf_Valid v1 p _ hU1 hp hv1).mono ?_
    rintro e w2 ⟨hb2, h⟩
    have hb := Bt hb1 hb2
    rcases h with ⟨hn, rfl⟩ | ⟨i, hi, v2, rfl, hv2⟩
    · have HN := Lib.hid hn
      clear hn
      go_wp2_with fail
      go_ret
      exact ⟨hb, .inl ⟨H2.out _ HN.out, H1.out _ HN.out, rfl⟩⟩
    · have HN := Lib.hid hi
      clear hi
      go_wp2_with fail
      go_ret
      exact ⟨hb, .inr ⟨H2.out _ HN.out, by rw [H1.out _ HN.out]; simp, v2, rfl, by rw [H1.out _ HN.out]; exact hv2⟩⟩

theorem or_small (n : Nat) (h1 : 65 ≤ n) (h2 : n ≤ 90) : bits .or .i64 (n : Int) 32 = ((n + 32 : Nat) : Int) := by
  have : ∀ n : Fin 91, 65 ≤ n.1 → bits .or .i64 (n.1 : Int) 32 = ((n.1 + 32 : Nat) : Int) := by decide +kernel
  exact this ⟨n, by omega⟩ h1
theorem glob_small (c : Nat) (hc : c ≤ 1114111) (w : World) : Calls Tryz.prog 148 #[.int .i64 (c : Int)] w fun e w' => e = .returned (.int .i64 (smallC c : Nat)) ∧ w = w' := by
  by_cases h1 : 65 ≤ c
  · by_cases h2 : c ≤ 90
    · have hv := Lib.hid (show smallC c = c + 32 by unfold smallC; rw [if_pos ⟨h1, h2⟩])
      have ho := or_small c h1 h2
      go_enter Tryz.func148, Tryz.ntmps148
      go_wp2
      go_ret
      exact ⟨ret_i64 (by rw [hv.out]; first | rfl | omega), rfl⟩
    · have hv := Lib.hid (show smallC c = c by unfold smallC; rw [if_neg (by omega)])
      go_enter Tryz.func148, Tryz.ntmps148
      go_wp2
      go_ret
      exact ⟨ret_i64 (by rw [hv.out]), rfl⟩
  · have hv := Lib.hid (show smallC c = c by unfold smallC; rw [if_neg (by omega)])
    go_enter Tryz.func148, Tryz.ntmps148
    go_wp2
    go_ret
    exact ⟨ret_i64 (by rw [hv.out]), rfl⟩
end Go.Proofs.YtkgifenidmbdkaaGreatDoor

/- subst.Check. -/
namespace Go.Proofs.YtkgifenidmbdkaaGreatDoor
open Go.RowKit

/-- What is wrong with a pattern with variables: the error's number, its place. -/
def chkV (p : ByteArray) (vars : List SVar) : Nat × Nat := if okP p = false then chkP p else match missV vars (pcs p).1 with
  | some k => (30, k)
  | none => if (pcs p).2 < 0 then (0, 0) else (10, (pcs p).2.toNat)
def CheckVPost (p : ByteArray) (vars : List SVar) (w : World) (e : Ending) (w' : World) : Prop := Below w.heap.size w w' ∧ ((okV p vars = true ∧ chkV p vars = (0, 0) ∧ e = .returned .nilIface) ∨ (okV p vars = false ∧ (chkV p vars).1 ≠ 0 ∧ ∃ v, e = .returned v ∧ IsFault w' v (chkV p vars).1 (chkV p vars).2))
theorem pcs_len (p : ByteArray) : ∀ f k, k ≤ p.size → (pcF p f k).1.length + 2 * k ≤ 2 * p.size := by
  intro f
  induction f with
  | zero => intro k hk; simp [pcF]; omega
  | succ f ih =>
    intro k hk
    rw [pcF]
    by_cases hlt : k < p.size
    · rw [if_pos hlt]
      have hes := extract_tail_size p k hk
      rcases idx_pair (p.extract k p.size).data.toList with hi | ⟨n, hi, hn⟩
      · rw [hi, if_pos (by decide)]
        show 1 + _ ≤ _
        omega
      · rw [show (p.extract k p.size).data.toList.length = (p.extract k p.size).size from rfl, hes] at hn
        rw [hi, if_neg (by omega), Int.toNat_natCast, pre_int]
        have hpre : (preP p k n).length ≤ 1 := by unfold preP; split <;> simp
        by_cases hc : cutH 41 (p.extract (k + n + 2) p.size) = true
        · rw [if_pos hc]
          have hr := cut_room hc
          rw [extract_tail_size p (k + n + 2) (by omega)] at hr
          have := ih (k + n + 2 + (cutN 41 (p.extract (k + n + 2) p.size)).size + 1) (by omega)
          simp only [List.length_append, List.length_cons]
          omega
        · rw [if_neg hc]
          show (preP p k n).length + _ ≤ _
          omega
    · rw [if_neg hlt]; simp; omega
set_option maxHeartbeats 6400000 in
set_option maxRecDepth 100000 in
theorem sub_Check (p : ByteArray) (av : Option Addr) (vcap : Nat) (vars : List SVar) (w : World) (hU : Utf8Laid w) (hL : ClassLaid w) (hM : MaxAt w) (hv : VarsSl w av vars) (hp : p.size ≤ 16777216) (hvl : vars.length ≤ 16777216) :
    Calls Tryz.prog 9 #[.string p, .slice av vars.length vcap] w (CheckVPost p vars w) := by
  go_enter Tryz.func9, Tryz.ntmps9
  go_wp2_with fail
  refine (glob_Check p _ hU hp).mono ?_
  rintro e w1 ⟨hb1, h⟩
  rcases h with ⟨hok, _, rfl⟩ | ⟨hok, hk0, v, rfl, hfv⟩
  · have hM1 := hM.below hb1
    have hL1 := hL.below hb1
    have hv1 := hv.below hb1
    go_wp2_with fail
    refine (sub_pieces p _ hM1 hp).mono ?_
    rintro e w2 ⟨v2, rfl, hown, hb2⟩
    have hlen := pcs_len p (p.size + 1) 0 (Nat.zero_le _)
    obtain ⟨a3, n3, c3, rfl⟩ := hown.shape3
    obtain ⟨hn3, hc3, hcm, hsl⟩ := hown.sl
    subst hn3
    have hb12 := Bt hb1 hb2
    have hL2 := hL1.below hb2
    have hv2 := hv1.below hb2
    have hokv : okV p vars = ((missV vars (pcs p).1).isNone && decide ((pcs p).2 < 0)) := by unfold okV; rw [hok]; rfl
    have hckv : chkV p vars = match missV vars (pcs p).1 with | some k => (30, k) | none => if (pcs p).2 < 0 then (0, 0) else (10, (pcs p).2.toNat) := by unfold chkV; rw [if_neg (by rw [hok]; decide)]
    rw [show (pcF p (p.size + 1) 0).1 = (pcs p).1 from rfl] at hlen
    have HO := Lib.hid hokv
    have HK := Lib.hid hckv
    unfold maxLen at hcm
    clear hokv hckv hok hown hb1 hb2 hU hL hM hv hM1 hL1 hv1
    generalize (pcs p).1 = qs at *
    generalize (pcs p).2 = bd at *
    go_wp2_with fail
    go_loopw [24] (fun x wr => ∃ i : Nat, i ≤ qs.length ∧ x = .int .i64 i ∧ missV vars (qs.drop i) = missV vars qs ∧ Below w2.heap.size w2 wr) (fun x _ => qs.length - (intOf x).toNat)
    case atStart => exact ⟨0, Nat.zero_le _, rfl, by rw [List.drop_zero], Below.refl _ _⟩
    case round =>
      obtain ⟨i, hil, rfl, hmi, hbr⟩ := hrel
      have hb02 := Bt hb12 hbr
      by_cases hlt : i < qs.length
      · have hiI : (i : Int) < (qs.length : Int) := by omega
        obtain ⟨q, hq⟩ : ∃ q, qs[i]? = some q := ⟨_, List.getElem?_eq_getElem hlt⟩
        obtain ⟨b, ha, hbw, d0, d1, d2⟩ := (hsl.below hbr) i q hq
        have hdr : qs.drop i = q :: qs.drop (i + 1) := by
          obtain ⟨hi, rfl⟩ := List.getElem?_eq_some_iff.1 hq
          exact List.drop_eq_getElem_cons hi
        rw [hdr, missV] at hmi
        obtain ⟨tx, iv, pl⟩ := q
        simp only at d0 d1 d2 hmi
        have hal : Below wr.heap.size wr (wr.alloc (.cells #[.string tx, .bool iv, .int .i64 (pl : Int)] 94)) := (Below.refl _ _).alloc (Nat.le_refl _) _
        have hal2 := Bt hbr hal
        have hal0 := Bt hb12 hal2
        subst ha
        clear hq hdr hsl
        cases iv with
        | false =>
          have HR := Lib.hid (show missV vars (qs.drop (i + 1)) = missV vars qs by rw [← hmi, if_neg (by simp)])
          clear hmi
          go_wp2_with fail
          go_roundw
          case rel => exact ⟨i + 1, by omega, by go_num, HR.out, hal2⟩
          case measure => simp [intOf]; omega
        | true =>
          have hLa := hL2.below hal2
          have hva := hv2.below hal2
          have hq0 := heap_alloc_new wr (.cells #[.string tx, .bool true, .int .i64 (pl : Int)] 94)
          have hMI := Lib.hid hmi
          clear hmi
          go_wp2_with fail
          refine (sub_Own tx _ hLa).mono ?_
          rintro e w4 ⟨rfl, hb4⟩
          have hb24 := Bt hal2 hb4
          cases how : (ownC tx).isSome with
          | true =>
            have HR := Lib.hid (show missV vars (qs.drop (i + 1)) = missV vars qs by
              have := hMI.out
              rw [if_neg (by rintro ⟨_, h, _⟩; cases ho : ownC tx <;> rw [ho] at h how <;> simp at h how)] at this
              exact this)
            clear how hMI hLa hva hq0 hal hal2 hb4
            go_wp2_with fail
            go_roundw
            case rel => exact ⟨i + 1, by omega, by go_num, HR.out, hb24⟩
            case measure => simp [intOf]; omega
          | false =>
            have hq4 := (hb4.block wr.heap.size (by simp)).trans hq0
            have t0 := cell_of_row _ _ 0 _ _ _ hq4
            have t2 := cell_of_row _ _ 2 _ _ _ hq4
            rw [show (#[Value.string tx, .bool true, .int .i64 (pl : Int)] : Array Value)[0]? = some (.string tx) from rfl] at t0
            rw [show (#[Value.string tx, .bool true, .int .i64 (pl : Int)] : Array Value)[2]? = some (.int .i64 (pl : Int)) from rfl] at t2
            have hl4 := lt_of_block hq4
            have hv4 := hva.below hb4
            have HOW := Lib.hid how
            clear how hLa hva hq0 hal hal2 hb4 hq4
            go_wp2_with fail
            refine (sub_values' av vcap vars tx _ hv4 hvl).mono ?_
            rintro e w5 ⟨u, rfl, _, hb5⟩
            have hb25 := Bt hb24 hb5
            have t25 := (hb5.cell (p := ⟨wr.heap.size, 2, none⟩) hl4).trans t2
            cases hfv : (findV vars tx).isSome with
            | true =>
              have HR := Lib.hid (show missV vars (qs.drop (i + 1)) = missV vars qs by
                have := hMI.out
                rw [if_neg (by rintro ⟨_, _, h⟩; cases ho : findV vars tx <;> rw [ho] at h hfv <;> simp at h hfv)] at this
                exact this)
              clear hfv hMI hv4 t0 t2 t25 hb5 HOW
              go_wp2_with fail
              go_roundw
              case rel => exact ⟨i + 1, by omega, by go_num, HR.out, hb25⟩
              case measure => simp [intOf]; omega
            | false =>
              have HR := Lib.hid (show missV vars qs = some pl by
                have := hMI.out
                rw [if_pos ⟨by first | rfl | trivial, by have := HOW.out; cases ho : ownC tx <;> rw [ho] at this <;> simp at this ⊢, by cases ho : findV vars tx <;> rw [ho] at hfv <;> simp at hfv ⊢⟩] at this
                exact this.symm)
              have hb05 := Bt hb12 hb25
              clear hfv hMI hv4 t0 t2 hb5 HOW hb25
              go_wp2_with fail
              refine (api_Fail' 30 (pl : Int) _).mono ?_
              rintro e w6 ⟨v6, rfl, hf6, hb6⟩
              have hb06 := Bt hb05 hb6
              have HF := Lib.hid hf6
              obtain ⟨z, rfl⟩ := hf6.ne_nil
              clear hf6 t25 hb05 hb6
              go_wp2_with fail
              go_ret
              have hK := HK.out
              rw [HR.out] at hK
              exact ⟨hb06, .inr ⟨by rw [HO.out, HR.out]; rfl, by rw [hK]; simp, _, rfl, by rw [hK]; exact HF.out⟩⟩
      · obtain rfl : i = qs.length := by omega
        rw [List.drop_length, missV] at hmi
        have HR := Lib.hid hmi.symm
        clear hmi
        by_cases hbd : 0 ≤ bd
        · go_wp2_with fail
          refine (api_Fail' 10 bd _).mono ?_
          rintro e w6 ⟨v6, rfl, hf6, hb6⟩
          have hb06 := Bt hb02 hb6
          have HF := Lib.hid hf6
          obtain ⟨z, rfl⟩ := hf6.ne_nil
          clear hf6 hb6
          go_wp2_with fail
          go_ret
          have hK := HK.out
          rw [HR.out] at hK
          simp only [if_neg (show ¬ bd < 0 by omega)] at hK
          have hbn : ((bd.toNat : Nat) : Int) = bd := by omega
          exact ⟨hb06, .inr ⟨by rw [HO.out, HR.out, decide_eq_false (by omega)]; rfl, by rw [hK]; simp, _, rfl, by rw [hK]; simp only [hbn]; exact HF.out⟩⟩
        · go_wp2_with fail
          go_ret
          have hK := HK.out
          rw [HR.out] at hK
          simp only [if_pos (show bd < 0 by omega)] at hK
          exact ⟨hb02, .inl ⟨by rw [HO.out, HR.out, decide_eq_true (by omega)]; rfl, hK, rfl⟩⟩
  · have H1 := Lib.hid (show okV p vars = false by unfold okV; rw [hok]; rfl)
    have H2 := Lib.hid (show chkV p vars = chkP p by unfold chkV; rw [if_pos hok])
    have HF := Lib.hid hfv
    obtain ⟨q, rfl⟩ := hfv.ne_nil
    clear hok hfv
    have HK0 := Lib.hid hk0
    clear hk0
    go_wp2_with fail
    go_ret
    exact ⟨hb1, .inr ⟨H1.out, by rw [H2.out]; exact HK0.out, _, rfl, by rw [H2.out]; exact HF.out⟩⟩
end Go.Proofs.YtkgifenidmbdkaaGreatDoor

/- fold.All. -/
namespace Go.Proofs.YtkgifenidmbdkaaGreatDoor
open Go.RowKit

/-- Do all bytes of a text stand in another one? -/
def allB (s m : ByteArray) : Bool := (List.range s.size).all fun i => hasB m (byteAt s i)
theorem allB_no {s m : ByteArray} {i : Nat} (hi : i < s.size) (h : hasB m (byteAt s i) = false) : allB s m = false := by
  unfold allB; rw [List.all_eq_false]; exact ⟨i, by simpa using hi, by simpa using h⟩
theorem allB_yes {s m : ByteArray} (h : ∀ i, i < s.size → hasB m (byteAt s i) = true) : allB s m = true := by
  unfold allB; rw [List.all_eq_true]; intro i hi; exact h i (by simpa using hi)
theorem index_has (m : ByteArray) (c : UInt8) : (hasB m c = true ∧ 0 ≤ Lib.indexByte m.data.toList c) ∨ (hasB m c = false ∧ Lib.indexByte m.data.toList c < 0) := by
  have hl : m.data.toList.length = m.size := rfl
  have hge := Lib.indexByte_ge m.data.toList c
  by_cases h : Lib.indexByte m.data.toList c = -1
  · refine .inr ⟨hasB_no fun j hj e => ?_, by omega⟩
    have := Lib.indexByte_none h j
    rw [List.getElem?_eq_getElem (by omega)] at this
    apply this
    rw [← e]
    unfold byteAt
    rw [List.getD, List.getElem?_eq_getElem (by omega)]; rfl
  · obtain ⟨o, ho⟩ := Int.eq_ofNat_of_zero_le (show 0 ≤ Lib.indexByte m.data.toList c by omega)
    have h2 := (Lib.indexByte_some ho).1
    have hlt : o < m.data.toList.length := (List.getElem?_eq_some_iff.1 h2).1
    refine .inl ⟨hasB_yes (k := o) (by omega) ?_, by omega⟩
    unfold byteAt
    rw [List.getD, h2]; rfl

end Go.Proofs.YtkgifenidmbdkaaGreatDoor
