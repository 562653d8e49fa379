/- glob.plain: the parts of a pattern. -/
import Derived.Test.YtkgifenidmbdkaaGreatDoorSubstMatchesM11
import Derived.Test.YtkgifenidmbdkaaGreatDoorSubstMatchesM10
import Derived.Test.YtkgifenidmbdkaaGreatDoorSubstMatchesM12

namespace Go.Proofs.YtkgifenidmbdkaaGreatDoor
open Go.RowKit

theorem patP_len (p : ByteArray) : (patP p).length ≤ p.size := by unfold patP; rw [List.length_map]; exact chrs_len p
theorem okP_none {p : ByteArray} (h : okP p = true) : (chrs p).2 = none ∧ p.size ≤ 1024 := by
  unfold okP at h
  rw [Bool.and_eq_true, decide_eq_true_iff, Option.isNone_iff_eq_none] at h
  exact ⟨h.2, h.1⟩
def PlainPost (p : ByteArray) (w : World) (e : Ending) (w' : World) : Prop :=
  Below w.heap.size w w' ∧ ((okP p = true ∧ ∃ v, e = .returned (.tuple #[v, .nilIface]) ∧ OwnP w' w.heap.size v (patP p)) ∨ (okP p = false ∧ ∃ u, e = .returned (.tuple #[.slice none 0 0, .iface 98 u])))

theorem map_take_one {cs : List Nat} {i c : Nat} (h : cs[i]? = some c) : (cs.take i).map partOf ++ [partOf c] = (cs.take (i + 1)).map partOf := by
  obtain ⟨hi, rfl⟩ := List.getElem?_eq_some_iff.1 h
  rw [List.take_succ_eq_append_getElem hi, List.map_append]; rfl

set_option maxHeartbeats 1600000 in
set_option maxRecDepth 100000 in
theorem glob_plain (p : ByteArray) (w : World) (hU : Utf8Laid w) (hp : p.size ≤ 16777216) : Calls Tryz.prog 80 #[.string p] w (PlainPost p w) := by
  go_enter Tryz.func80, Tryz.ntmps80
  go_wp2_with fail
  refine (glob_Check p _ hU hp).mono ?_
  rintro e w1 ⟨hb1, h⟩
  rcases h with ⟨hok, _, rfl⟩ | ⟨hok, _, v, rfl, hv⟩
  · have HOK := Lib.hid hok
    have HN := Lib.hid (okP_none hok).1
    clear hok
    have hU1 := hU.below hb1
    go_wp2_with ((with_reducible refine wpList_bytes_sl rfl 9 106 5 _ rfl p rfl Tryz.underlying9 Tryz.underlying106 Tryz.underlying5 (by omega) ?_); intro v1 w2 hv1 hb2)
    have hb12 := Bt hb1 hb2
    have hU2 := hU1.below hb2
    refine (utf_Chars v1 p _ hU2 hp hv1).mono ?_
    rintro e w3 ⟨hb3, h⟩
    have hb13 := Bt hb12 hb3
    rcases h with ⟨_, v3, rfl, hown⟩ | ⟨i, hi, _⟩
    · obtain ⟨a, c, rfl, hc1, hc2, hsl⟩ := chars_sl hown rfl
      have hlen := chrs_len p
      have hpat : patP p = (chrs p).1.map partOf := rfl
      have hpl := patP_len p
      rw [hpat] at hpl
      generalize (chrs p).1 = cs at *
      have HPAT := Lib.hid hpat
      unfold maxLen at hc2
      clear hown hb1 hb2 hb3 hb12 hU1 hU2 hpat
      go_wp2_with fail
      go_loopw [7, 23] (fun v x wr => ∃ i : Nat, i ≤ cs.length ∧ x = .int .i64 i ∧ OwnP wr w3.heap.size v ((cs.take i).map partOf) ∧ Below w3.heap.size w3 wr) (fun _ x _ => cs.length - (intOf x).toNat)
      case atStart => exact ⟨0, Nat.zero_le _, rfl, OwnP.nil _ _, Below.refl _ _⟩
      case round =>
        obtain ⟨i, hil, rfl, hown, hbr⟩ := hrel
        by_cases hlt : i < cs.length
        · obtain ⟨d, hd⟩ : ∃ d, cs[i]? = some d := ⟨_, List.getElem?_eq_getElem hlt⟩
          obtain ⟨b, rfl, hbw, hcell⟩ := (hsl.below hbr) i d hd
          have hmt := map_take_one hd
          have hdl : ((cs.take i).map partOf).length ≤ 16777216 := by rw [List.length_map]; have := List.length_take_le i cs; omega
          have hbs := (Bt hb13 hbr).size
          generalize (cs.take i).map partOf = done at *
          have hws := hbr.size
          by_cases h42 : d = 42
          · subst h42
            have HMT := Lib.hid hmt
            clear hmt hd
            have ho2 := hown.below ((Below.refl wr.heap.size wr).alloc (Nat.le_refl _) (.cells #[.int .i64 0, .bool true, .bool true] 218))
            have hbr2 := hbr.alloc hbr.size (.cells #[.int .i64 0, .bool true, .bool true] 218)
            go_wp2_with (at_builtin; refine wpList_app_part rfl (.tmp 35) (.tmp 37) rfl w3.heap.size _ _ rfl ho2 wr.heap.size 1 ⟨0, true, true⟩ rfl (heap_alloc_new wr _) (by omega) (by simp; omega) ?_)
            intro v4 w4 hown4 hg4
            have hbr4 := ho2.under hbr2 (Nat.le_refl _) hg4
            clear ho2 hbr2 hown hbr hg4
            go_wp2_with fail
            go_roundw
            case rel => exact ⟨i + 1, by omega, by go_num, by rw [← HMT.out]; exact hown4, hbr4⟩
            case measure => simp [intOf]; omega
          · have e1 : ((d : Int) == 42) = false := by rw [beq_eq_false_iff_ne]; omega
            by_cases h63 : d = 63
            · subst h63
              have HMT := Lib.hid hmt
              clear hmt hd h42
              have ho2 := hown.below ((Below.refl wr.heap.size wr).alloc (Nat.le_refl _) (.cells #[.int .i64 0, .bool true, .bool false] 218))
              have hbr2 := hbr.alloc hbr.size (.cells #[.int .i64 0, .bool true, .bool false] 218)
              go_wp2_with (at_builtin; refine wpList_app_part rfl (.tmp 41) (.tmp 43) rfl w3.heap.size _ _ rfl ho2 wr.heap.size 1 ⟨0, true, false⟩ rfl (heap_alloc_new wr _) (by omega) (by simp; omega) ?_)
              intro v4 w4 hown4 hg4
              have hbr4 := ho2.under hbr2 (Nat.le_refl _) hg4
              clear ho2 hbr2 hown hbr hg4
              go_wp2_with fail
              go_roundw
              case rel => exact ⟨i + 1, by omega, by go_num, by rw [← HMT.out]; exact hown4, hbr4⟩
              case measure => simp [intOf]; omega
            · have e2 : ((d : Int) == 63) = false := by rw [beq_eq_false_iff_ne]; omega
              rw [partOf_char h42 h63] at hmt
              have HMT := Lib.hid hmt
              clear hmt hd h42 h63
              have ho2 := hown.below ((Below.refl wr.heap.size wr).alloc (Nat.le_refl _) (.cells #[.int .i64 (d : Int), .bool false, .bool false] 218))
              have hbr2 := hbr.alloc hbr.size (.cells #[.int .i64 (d : Int), .bool false, .bool false] 218)
              go_wp2_with (at_builtin; refine wpList_app_part rfl (.tmp 28) (.tmp 31) rfl w3.heap.size _ _ rfl ho2 wr.heap.size 1 ⟨d, false, false⟩ rfl (heap_alloc_new wr _) (by omega) (by simp; omega) ?_)
              intro v4 w4 hown4 hg4
              have hbr4 := ho2.under hbr2 (Nat.le_refl _) hg4
              clear ho2 hbr2 hown hbr hg4
              go_wp2_with fail
              go_roundw
              case rel => exact ⟨i + 1, by omega, by go_num, by rw [← HMT.out]; exact hown4, hbr4⟩
              case measure => simp [intOf]; omega
        · obtain rfl : i = cs.length := by omega
          rw [List.take_length, ← HPAT.out] at hown
          have hb4 := Bt hb13 hbr
          have hown5 := ownsRow_base hown hb13.size
          clear hown
          go_wp2_with fail
          go_ret2
          exact ⟨hb4, .inl ⟨HOK.out, _, rfl, hown5⟩⟩
    · rw [HN.out] at hi; cases hi
  · obtain ⟨u, rfl⟩ := hv.ne_nil
    have HOK := Lib.hid hok
    clear hok
    go_wp2_with fail
    go_ret2
    exact ⟨hb1, .inr ⟨HOK.out, u, rfl⟩⟩
end Go.Proofs.YtkgifenidmbdkaaGreatDoor

/- subst's matcher: pattern: all places at once through a pattern's states. -/
namespace Go.Proofs.YtkgifenidmbdkaaGreatDoor
open Go.RowKit

/-- What a matcher holds: its characters, its variables, whether letters are alike. -/
def MatAt (w : World) (g : Nat) (a : Option Addr) (n cap : Nat) (cs : List Nat) (vs : Value) (fold : Bool) : Prop :=
  g < w.heap.size ∧ w.cell? ⟨g, 0, none⟩ = some (.slice a n cap) ∧ w.cell? ⟨g, 1, none⟩ = some vs ∧ w.cell? ⟨g, 2, none⟩ = some (.bool fold) ∧ n = cs.length ∧ CharsSl w a cs
theorem MatAt.below {w w' : World} {g n cap : Nat} {a : Option Addr} {cs : List Nat} {vs : Value} {fold : Bool} (h : MatAt w g a n cap cs vs fold) (hb : Below w.heap.size w w') : MatAt w' g a n cap cs vs fold :=
  ⟨Nat.lt_of_lt_of_le h.1 hb.size, (hb.cell (p := ⟨g, 0, none⟩) h.1).trans h.2.1, (hb.cell (p := ⟨g, 1, none⟩) h.1).trans h.2.2.1, (hb.cell (p := ⟨g, 2, none⟩) h.1).trans h.2.2.2.1, h.2.2.2.2.1, h.2.2.2.2.2.below hb⟩
theorem MatAt.grown {w w' : World} {g n cap gx k : Nat} {a : Option Addr} {cs : List Nat} {vs : Value} {fold : Bool} {f : Nat → Bool} (h : MatAt w g a n cap cs vs fold) (hg : w.grownBy w' (some gx)) (hr : w.rowIs gx 4 (k + 1) (fun i => .bool (f i))) : MatAt w' g a n cap cs vs fold := by
  have hne : g ≠ gx := by
    rintro rfl
    have := hr.cell (i := 0) (by omega)
    rw [h.2.1] at this
    cases this
  exact ⟨Nat.lt_of_lt_of_le h.1 hg.size, (cell_grown hg (p := ⟨g, 0, none⟩) h.1 hne).trans h.2.1, (cell_grown hg (p := ⟨g, 1, none⟩) h.1 hne).trans h.2.2.1, (cell_grown hg (p := ⟨g, 2, none⟩) h.1 hne).trans h.2.2.2.1, h.2.2.2.2.1, h.2.2.2.2.2.grown hg (h.2.2.2.2.2.ne hr)⟩
/-- The places that are reached so far. -/
noncomputable def doneR (f : Bool) (ps : List GPart) (cs : List Nat) (fr nx : Nat → Bool) (i j : Nat) : Bool := if j < i then nx j || nS f ps cs fr j ps.length else nx j
theorem done_row {w : World} {g n i : Nat} {t : TypeId} {f : Bool} {ps : List GPart} {cs : List Nat} {fr nx : Nat → Bool} {v : Bool} (h : w.rowIs g t n (fun j => if j = i then .bool v else boolsF (doneR f ps cs fr nx i) j)) (hv : (nx i || nS f ps cs fr i ps.length) = v) :
    w.rowIs g t n (boolsF (doneR f ps cs fr nx (i + 1))) := h.congr fun j _ => by
  show _ = Value.bool _
  unfold boolsF doneR
  by_cases hj : j = i
  · subst hj; rw [if_pos rfl, if_pos (by omega), hv]
  · rw [if_neg hj]
    by_cases h2 : j < i
    · rw [if_pos h2, if_pos (by omega)]
    · rw [if_neg h2, if_neg (by omega)]
theorem skip_row' {w : World} {g n i : Nat} {t : TypeId} {ps : List GPart} {f0 : Nat → Bool} {v : Bool} (h : w.rowIs g t n (fun j => if j = i + 1 then .bool v else boolsF (fun m => if m ≤ i then skipF ps f0 m else f0 m) j)) (hv : skipF ps f0 (i + 1) = v) :
    w.rowIs g t n (boolsF fun m => if m ≤ i + 1 then skipF ps f0 m else f0 m) := skip_row h hv
theorem grown_over {a w w' : World} {gx gn : Nat} (h : a.grownBy w (some gx)) (hg : w.grownBy w' (some gn)) (hn : a.heap.size ≤ gn) : a.grownBy w' (some gx) :=
  ⟨hg.os.trans h.os, hg.tape.trans h.tape, hg.output.trans h.output, Nat.le_trans h.size hg.size, fun k hk hkx => (hg.block k (Nat.lt_of_lt_of_le hk h.size) (fun e => by injection e with e; omega)).trans (h.block k hk hkx)⟩
set_option maxHeartbeats 12800000 in
set_option maxRecDepth 100000 in
theorem sub_pattern (g gf gx c1 c2 m cap : Nat) (a : Option Addr) (p : ByteArray) (cs : List Nat) (vs : Value) (fr nx : Nat → Bool) (fold : Bool) (w : World) (hU : Utf8Laid w) (hp : p.size ≤ 16777216) (hm : MatAt w g a m cap cs vs fold) (hm2 : m ≤ 16777216)
    (hf : w.rowIs gf 4 (m + 1) (boolsF fr)) (hx : w.rowIs gx 4 (m + 1) (boolsF nx)) (hne : gf ≠ gx) (hcs : ∀ c ∈ cs, c ≤ 1114111) :
    Calls Tryz.prog 82 #[.pointer (some ⟨g, 0, none⟩), .string p, .slice (some ⟨gf, 0, none⟩) (m + 1) c1, .slice (some ⟨gx, 0, none⟩) (m + 1) c2] w fun e w' => e = .returned (.tuple #[]) ∧ w'.rowIs gx 4 (m + 1) (boolsF fun j => nx j || patR fold cs p fr j) ∧ w.grownBy w' (some gx) := by
  have hxl := hx.lt
  have hfl := hf.lt
  have hno : okP p = false → ∀ w', Below w.heap.size w w' → w'.rowIs gx 4 (m + 1) (boolsF fun j => nx j || patR fold cs p fr j) ∧ w.grownBy w' (some gx) := fun h w' hb =>
    ⟨(row_below hx hb).congr fun j _ => by show Value.bool (nx j) = Value.bool (nx j || patR fold cs p fr j); rw [patR_no h, Bool.or_false], below_grownBy hb _⟩
  have HNO := Lib.hid hno
  clear hno
  go_enter Tryz.func82, Tryz.ntmps82
  go_wp2_with ((with_reducible refine wpList_bytes_sl rfl 9 106 5 _ rfl p rfl Tryz.underlying9 Tryz.underlying106 Tryz.underlying5 (by omega) ?_); intro v1 w2 hv1 hb2)
  refine (utf_Chars v1 p _ (hU.below hb2) hp hv1).mono ?_
  rintro e w3 ⟨hb3, h⟩
  have hb13 := Bt hb2 hb3
  rcases h with ⟨hn, v3, rfl, hownc⟩ | ⟨i, hi, v3, rfl, hv3⟩
  · by_cases hz : p.size ≤ 1024
    · have hok : okP p = true := by unfold okP; rw [decide_eq_true hz, hn]; rfl
      obtain ⟨a3, c3, rfl, hc1, hc2, hsl⟩ := chars_sl hownc rfl
      have hlen := chrs_len p
      have hzI : ¬ (1024 : Int) < (p.size : Int) := by omega
      have hxm : ∀ x ∈ (chrs p).1, x ≤ 1114111 := fun c hc => by have := rightC_lt (right_chrs p c hc); omega
      have hpat : patP p = (chrs p).1.map partOf := rfl
      have hrun := fun j => patR_run (fold := fold) (cs := cs) (fr := fr) hok j
      rw [hpat] at hrun
      have hpl : ((chrs p).1.map partOf).length = (chrs p).1.length := List.length_map _
      generalize hxs : (chrs p).1 = xs at *
      clear hzI
      have hzI : ¬ (1024 : Int) < (p.size : Int) := by omega
      have hmk := make_bools xs.length (by omega)
      have hrn := World.rowIs_made w3 (.bool false) (xs.length + 1) 4
      have hst4 : Below w3.heap.size w3 (w3.alloc (.cells (madeCells #[.bool false] (xs.length + 1)) 4)) := (Below.refl _ _).alloc (Nat.le_refl _) _
      have hb14 := Bt hb13 hst4
      have hsl4 := hsl.below hst4
      have hgN := hb13.size
      have HXM := Lib.hid hxm
      have HRUN := Lib.hid hrun
      have HPL := Lib.hid hpl
      have HCS := Lib.hid hcs
      unfold maxLen at hc2
      clear hxm hrun hpl hpat hxs hn hownc hok hsl hst4 hb13 hb3 hb2 hcs HNO hU hv1
      go_wp2_with fail
      generalize w3.alloc (.cells (madeCells #[.bool false] (xs.length + 1)) 4) = w4 at *
      generalize w3.heap.size = gN at *
      clear hmk hz hzI
      go_loopw [10, 34] (fun v x wr => ∃ (i gn : Nat) (F : Nat → Bool), i ≤ m + 1 ∧ x = .int .i64 i ∧ v = .slice (some ⟨gn, 0, none⟩) (xs.length + 1) (xs.length + 1) ∧ wr.rowIs gn 4 (xs.length + 1) (boolsF F) ∧ (i ≤ m → ∀ j, F j = nA fold (xs.map partOf) cs fr i j) ∧ w.heap.size ≤ gn ∧ wr.rowIs gx 4 (m + 1) (boolsF (doneR fold (xs.map partOf) cs fr nx i)) ∧ w.grownBy wr (some gx) ∧ CharsSl wr a3 xs) (fun _ x _ => m + 1 - (intOf x).toNat)
      case atStart => exact ⟨0, gN, fun _ => false, Nat.zero_le _, rfl, rfl, hrn, fun _ _ => rfl, hgN, (row_below hx hb14).congr fun j _ => by
        show Value.bool (nx j) = Value.bool (doneR fold (xs.map partOf) cs fr nx 0 j)
        unfold doneR
        rw [if_neg (by omega)], below_grownBy hb14 _, hsl4⟩
      case round =>
        obtain ⟨i, gn, F, him, rfl, rfl, hr, hF, hgw, hx', hgb, hcl⟩ := hrel
        clear hrn hsl4 hb14 hgN
        by_cases hlt : i < m + 1
        · have hiI : (i : Int) < (m : Int) + 1 := by omega
          have hF0 := hF (by omega)
          have hfr := rowIs_far hf hgb (by simp; exact hne)
          have cfr := hfr.cell (i := i) hlt
          have hfl2 := hfr.lt
          have c0 := hr.cell (i := 0) (by omega)
          have hgl := hr.lt
          have fz0 := hr.frozen 0
          have hgne : gx ≠ gn := by omega
          have e1 : boolsF fr i = .bool (fr i) := rfl
          have e2 : boolsF F 0 = .bool (F 0) := rfl
          rw [e1] at cfr
          rw [e2] at c0
          have hsetr := (hr.set 0 (.bool (F 0 || fr i))).congr (g := boolsF fun q => nA fold (xs.map partOf) cs fr i q || (decide (q = 0) && fr i)) (fun q _ => by
            by_cases hq : q = 0
            · subst hq; rw [if_pos rfl]; show Value.bool _ = Value.bool (nA fold (xs.map partOf) cs fr i 0 || (decide (0 = 0) && fr i)); rw [← hF0 0]; simp
            · rw [if_neg hq]; show Value.bool (F q) = Value.bool (nA fold (xs.map partOf) cs fr i q || (decide (q = 0) && fr i)); rw [hF0 q, decide_eq_false hq]; simp)
          have hsetx := hx'.setOther (a := ⟨gn, 0, none⟩) (by show gx ≠ gn; exact hgne) (.bool (F 0 || fr i))
          have hsetg := only_setCell hgb (p := ⟨gn, 0, none⟩) (.inr hgw) (.bool (F 0 || fr i))
          have hsetc := hcl.grown (only_setCell (grown_refl wr (some gn)) (p := ⟨gn, 0, none⟩) (.inl rfl) (.bool (F 0 || fr i))) (hcl.ne (f := F) hr)
          have HR := Lib.hid hsetr
          have HXX := Lib.hid hsetx
          have HG := Lib.hid hsetg
          have HC := Lib.hid hsetc
          clear hsetr hsetx hsetg hsetc hr hx' hgb hcl hF hF0 hfr
          generalize F 0 = f0 at *
          generalize hfi : fr i = fi at *
          clear e1 e2
          go_upto_region 6 with (fail)
          go_cut [45] (fun v wx => v = .bool (f0 || fi) ∧ wx = wr.setCell ⟨gn, 0, none⟩ (.bool (f0 || fi)))
          case first =>
            clear hfi HR HXX HG HC
            cases f0 <;> cases fi
            all_goals
              go_wp2_with fail
              go_meet
              exact ⟨rfl, rfl⟩
          case rest =>
            obtain ⟨rfl, rfl⟩ := hcut
            have hr6 := HR.out
            have hx6 := HXX.out
            have hg6 := HG.out
            have hc6 := HC.out
            clear HR HXX HG HC cfr c0 fz0
            generalize wr.setCell ⟨gn, 0, none⟩ (.bool (f0 || fi)) = w6 at *
            generalize hAA : (fun q => nA fold (xs.map partOf) cs fr i q || (decide (q = 0) && fi)) = AA at *
            have HAA := Lib.hid hAA
            clear hAA
            go_wp2_with fail
            have hgl6 := hr6.lt
            have hxl6 := hx6.lt
            have hic : i ≤ cs.length := by have := hm.2.2.2.2.1; omega
            go_loopw [49] (fun x wi => ∃ k : Nat, k ≤ xs.length ∧ x = .int .i64 k ∧ wi.rowIs gn 4 (xs.length + 1) (boolsF fun q => if q ≤ k then skipF (xs.map partOf) AA q else AA q) ∧ w6.grownBy wi (some gn)) (fun x _ => xs.length - (intOf x).toNat)
            case atStart => exact ⟨0, Nat.zero_le _, rfl, hr6.congr (fun q _ => by
              show Value.bool (AA q) = Value.bool (if q ≤ 0 then skipF (xs.map partOf) AA q else AA q)
              by_cases h : q ≤ 0
              · obtain rfl : q = 0 := by omega
                rfl
              · rw [if_neg h]), grown_refl _ _⟩
            case round =>
              obtain ⟨k, hkl, rfl, hrk, hgk⟩ := hrel
              by_cases hltk : k < xs.length
              · obtain ⟨x, hxx⟩ : ∃ x, xs[k]? = some x := ⟨_, List.getElem?_eq_getElem hltk⟩
                obtain ⟨b0, rfl, hb0, h1⟩ := (hc6.grown hgk (hc6.ne (f := AA) hr6)) k x hxx
                have hma : manyAt (xs.map partOf) k = decide (x = 42) := by rw [manyAt_of (p := partOf x) (by rw [List.getElem?_map, hxx]; rfl), many_star]
                have hsk := skipF_succ (xs.map partOf) AA k
                rw [hma] at hsk
                have e42 : ((x : Int) == 42) = decide (x = 42) := by rw [Bool.eq_iff_iff]; simp; omega
                have c0 := hrk.cell (i := k) (by omega)
                have c1 := hrk.cell (i := k + 1) (by omega)
                have e0 : boolsF (fun q => if q ≤ k then skipF (xs.map partOf) AA q else AA q) k = .bool (skipF (xs.map partOf) AA k) := by unfold boolsF; simp
                have e1 : boolsF (fun q => if q ≤ k then skipF (xs.map partOf) AA q else AA q) (k + 1) = .bool (AA (k + 1)) := by
                  show Value.bool (if k + 1 ≤ k then _ else _) = _
                  rw [if_neg (by omega)]
                rw [e0] at c0
                rw [e1] at c1
                have hset := fun u => hrk.set (k + 1) u
                have hgr := fun u => only_setCell hgk (p := ⟨gn, k + 1, none⟩) (.inl rfl) u
                have hfz := hrk.frozen (k + 1)
                have hglk := hrk.lt
                generalize skipF (xs.map partOf) AA k = y at *
                generalize AA (k + 1) = z at *
                generalize decide (x = 42) = mm at *
                have HSET := Lib.hid hset
                have HSK := Lib.hid hsk
                have HGR := Lib.hid hgr
                clear hset hsk hgr hma e0 e1 hxx hrk hgk hr6 hx6 hg6 hc6
                cases z <;> cases y <;> cases mm
                all_goals
                  go_wp2_with fail
                  go_roundw
                  case rel => exact ⟨k + 1, by omega, by go_num, skip_row' (HSET.out _) HSK.out, HGR.out _⟩
                  case measure => simp [intOf]; omega
              · obtain rfl : k = xs.length := by omega
                have hrS : wr.rowIs gn 4 (xs.length + 1) (boolsF (nS fold (xs.map partOf) cs fr i)) := hrk.congr fun q hq => by
                  show Value.bool (if q ≤ xs.length then skipF (xs.map partOf) AA q else AA q) = Value.bool (nS fold (xs.map partOf) cs fr i q)
                  rw [if_pos (by omega), ← HAA.out, ← hfi, nS_skip hic (by rw [HPL.out]; omega)]
                have hx7 := rowIs_far hx6 hgk (by simp; exact hgne)
                have hg7 := grown_over hg6 hgk hgw
                have hc7 := hc6.grown hgk (hc6.ne (f := AA) hr6)
                clear hrk hgk hr6 hx6 hg6 hc6 HAA hgl6 hxl6
                have cx := hx7.cell (i := i) hlt
                have cL := hrS.cell (i := xs.length) (by omega)
                have fzx := hx7.frozen i
                have hgl7 := hrS.lt
                have hxl7 := hx7.lt
                have e1 : boolsF (doneR fold (xs.map partOf) cs fr nx i) i = .bool (nx i) := by
                  unfold boolsF doneR
                  rw [if_neg (by omega)]
                have e2 : boolsF (nS fold (xs.map partOf) cs fr i) xs.length = .bool (nS fold (xs.map partOf) cs fr i xs.length) := rfl
                rw [e1] at cx
                rw [e2] at cL
                have hd : (nx i || nS fold (xs.map partOf) cs fr i (xs.map partOf).length) = (nx i || nS fold (xs.map partOf) cs fr i xs.length) := by rw [HPL.out]
                have hsx := done_row (hx7.set i (.bool (nx i || nS fold (xs.map partOf) cs fr i xs.length))) hd
                have hsr := hrS.setOther (a := ⟨gx, i, none⟩) (by show gn ≠ gx; exact fun e => hgne e.symm) (.bool (nx i || nS fold (xs.map partOf) cs fr i xs.length))
                have hsg := only_setCell hg7 (p := ⟨gx, i, none⟩) (.inl rfl) (.bool (nx i || nS fold (xs.map partOf) cs fr i xs.length))
                have hsc := hc7.grown (only_setCell (grown_refl wr (some gx)) (p := ⟨gx, i, none⟩) (.inl rfl) (.bool (nx i || nS fold (xs.map partOf) cs fr i xs.length))) (hc7.ne (f := doneR fold (xs.map partOf) cs fr nx i) hx7)
                have HSX := Lib.hid hsx
                have HSR := Lib.hid hsr
                have HSG := Lib.hid hsg
                have HSC := Lib.hid hsc
                clear hsx hsr hsg hsc hd e1 e2 hx7 hrS hg7 hc7
                generalize hni : nx i = ni at *
                generalize nS fold (xs.map partOf) cs fr i xs.length = sL at *
                go_upto_region 12 with (fail)
                go_cut [86] (fun v wx => v = .bool (ni || sL) ∧ wx = wr.setCell ⟨gx, i, none⟩ (.bool (ni || sL)))
                case first =>
                  clear hni HSX HSR HSG HSC
                  cases ni <;> cases sL
                  all_goals
                    go_wp2_with fail
                    go_meet
                    exact ⟨rfl, rfl⟩
                case rest =>
                  obtain ⟨rfl, rfl⟩ := hcut
                  have hx8 := HSX.out
                  have hr8 := HSR.out
                  have hg8 := HSG.out
                  have hc8 := HSC.out
                  clear HSX HSR HSG HSC cx cL fzx hni
                  generalize wr.setCell ⟨gx, i, none⟩ (.bool (ni || sL)) = w8 at *
                  have hm8 := hm.grown hg8 hx
                  obtain ⟨hgl8, q0, _, q2, hmn, hcl8⟩ := hm8
                  have hrl8 := hr8.lt
                  by_cases him2 : i < m
                  · have hiM : (i : Int) < (m : Int) := by omega
                    obtain ⟨d, hd⟩ : ∃ d, cs[i]? = some d := ⟨_, List.getElem?_eq_getElem (by omega)⟩
                    obtain ⟨bb, ha, hbb, hcd⟩ := hcl8 i d hd
                    rw [ha] at q0
                    have hA := fun W h1 h2 h3 h4 => sub_advance g a3 xs.length c3 gn (xs.length + 1) d i xs cs fr fold W rfl (by omega) h1 h2 h3 h4 HXM.out
                    have HA := Lib.hid hA
                    have hnA : ∀ j, nP fold (xs.map partOf) cs fr i d xs.length j = nA fold (xs.map partOf) cs fr (i + 1) j := fun j => by
                      simp only [nA, hd, HPL.out]
                    have HNA := Lib.hid hnA
                    clear hA hnA hd hcl8 ha hmn
                    go_wp2_with fail
                    refine (HA.out _ hgl8 q2 hc8 hr8).mono ?_
                    rintro e w9 ⟨gn9, rfl, hr9, hgl9, hb9⟩
                    have hx9 := row_below hx8 hb9
                    have hg9 := Bg hg8 hb9
                    have hc9 := hc8.below hb9
                    have hle9 := hg8.size
                    clear HA hx8 hr8 hg8 hc8 hb9 q0 q2 hcd
                    go_wp2_with fail
                    go_roundw
                    case rel => exact ⟨i + 1, gn9, _, by omega, by go_num, rfl, hr9, fun _ j => HNA.out j, by omega, hx9, hg9, hc9⟩
                    case measure => simp [intOf]; omega
                  · have hiM : ¬ (i : Int) < (m : Int) := by omega
                    clear hcl8
                    go_wp2_with fail
                    go_roundw
                    case rel => exact ⟨i + 1, gn, _, by omega, by go_num, rfl, hr8, fun h => absurd h (by omega), hgw, hx8, hg8, hc8⟩
                    case measure => simp [intOf]; omega
        · obtain rfl : i = m + 1 := by omega
          have hmI : ¬ ((m : Int) + 1 < (m : Int) + 1) := by omega
          go_wp2_with fail
          go_end0
          exact ⟨rfl, hx'.congr fun j hj => by
            show Value.bool (doneR fold (xs.map partOf) cs fr nx (m + 1) j) = Value.bool (nx j || patR fold cs p fr j)
            unfold doneR
            rw [if_pos hj, HRUN.out], hgb⟩
    · have hz2 : (1024 : Int) < (p.size : Int) := by omega
      have hok : okP p = false := by unfold okP; rw [decide_eq_false hz]; rfl
      have H := Lib.hid (HNO.out hok _ hb13)
      clear hz hok hn hownc
      go_wp2_with fail
      (try simp only [Exit.inBlock, Exit.then])
      refine bodyPost_ret (results_none rfl _ _ _) rfl ?_
      exact ⟨rfl, H.out⟩
  · obtain ⟨q, rfl⟩ := hv3.ne_nil
    have hok : okP p = false := by unfold okP; rw [hi]; simp
    have H := Lib.hid (HNO.out hok _ hb13)
    clear hi hok
    go_wp2_with fail
    (try simp only [Exit.inBlock, Exit.then])
    refine bodyPost_ret (results_none rfl _ _ _) rfl ?_
    exact ⟨rfl, H.out⟩
end Go.Proofs.YtkgifenidmbdkaaGreatDoor
