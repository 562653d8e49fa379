/- subst's matcher: pattern: all places at once through a pattern's states. -/
import Derived.Test.YtibhohpamnpkcaaGreatDoorRouteOrderM24
import Derived.Test.YtibhohpamnpkcaaGreatDoorRouteOrderM23

namespace Go.Proofs.YtibhohpamnpkcaaGreatDoor
open Go.RowKit

/-- What a matcher holds: its characters, its variables, whether letters are alike. -/
def MatAt (w : World) (g : Nat) (a : Option Addr) (n cap : Nat) (cs : List Nat) (vs : Value) (fold : Bool) : Prop :=
  g < w.heap.size ∧ w.cell? ⟨g, 0, none⟩ = some (.slice a n cap) ∧ w.cell? ⟨g, 1, none⟩ = some vs ∧ w.cell? ⟨g, 2, none⟩ = some (.bool fold) ∧ n = cs.length ∧ CharsSl w a cs
theorem MatAt.below {w w' : World} {g n cap : Nat} {a : Option Addr} {cs : List Nat} {vs : Value} {fold : Bool} (h : MatAt w g a n cap cs vs fold) (hb : Below w.heap.size w w') : MatAt w' g a n cap cs vs fold :=
  ⟨Nat.lt_of_lt_of_le h.1 hb.size, (hb.cell (p := ⟨g, 0, none⟩) h.1).trans h.2.1, (hb.cell (p := ⟨g, 1, none⟩) h.1).trans h.2.2.1, (hb.cell (p := ⟨g, 2, none⟩) h.1).trans h.2.2.2.1, h.2.2.2.2.1, h.2.2.2.2.2.below hb⟩
theorem MatAt.grown {w w' : World} {g n cap gx k : Nat} {a : Option Addr} {cs : List Nat} {vs : Value} {fold : Bool} {f : Nat → Bool} (h : MatAt w g a n cap cs vs fold) (hg : w.grownBy w' (some gx)) (hr : w.rowIs gx 4 (k + 1) (fun i => .bool (f i))) : MatAt w' g a n cap cs vs fold := by
  have hne : g ≠ gx := by
    rintro rfl
    have := hr.cell (i := 0) (by omega)
    rw [h.2.1] at this
    cases this
  exact ⟨Nat.lt_of_lt_of_le h.1 hg.size, (cell_grown hg (p := ⟨g, 0, none⟩) h.1 hne).trans h.2.1, (cell_grown hg (p := ⟨g, 1, none⟩) h.1 hne).trans h.2.2.1, (cell_grown hg (p := ⟨g, 2, none⟩) h.1 hne).trans h.2.2.2.1, h.2.2.2.2.1, h.2.2.2.2.2.grown hg (h.2.2.2.2.2.ne hr)⟩
/-- The places that are reached so far. -/
noncomputable def doneR (f : Bool) (ps : List GPart) (cs : List Nat) (fr nx : Nat → Bool) (i j : Nat) : Bool := if j < i then nx j || nS f ps cs fr j ps.length else nx j
theorem done_row {w : World} {g n i : Nat} {t : TypeId} {f : Bool} {ps : List GPart} {cs : List Nat} {fr nx : Nat → Bool} {v : Bool} (h : w.rowIs g t n (fun j => if j = i then .bool v else boolsF (doneR f ps cs fr nx i) j)) (hv : (nx i || nS f ps cs fr i ps.length) = v) :
    w.rowIs g t n (boolsF (doneR f ps cs fr nx (i + 1))) := h.congr fun j _ => by
  show _ = Value.bool _
  unfold boolsF doneR
  by_cases hj : j = i
  · subst hj; rw [if_pos rfl, if_pos (by omega), hv]
  · rw [if_neg hj]
    by_cases h2 : j < i
    · rw [if_pos h2, if_pos (by omega)]
    · rw [if_neg h2, if_neg (by omega)]
theorem skip_row' {w : World} {g n i : Nat} {t : TypeId} {ps : List GPart} {f0 : Nat → Bool} {v : Bool} (h : w.rowIs g t n (fun j => if j = i + 1 then .bool v else boolsF (fun m => if m ≤ i then skipF ps f0 m else f0 m) j)) (hv : skipF ps f0 (i + 1) = v) :
    w.rowIs g t n (boolsF fun m => if m ≤ i + 1 then skipF ps f0 m else f0 m) := skip_row h hv
theorem grown_over {a w w' : World} {gx gn : Nat} (h : a.grownBy w (some gx)) (hg : w.grownBy w' (some gn)) (hn : a.heap.size ≤ gn) : a.grownBy w' (some gx) :=
  ⟨hg.os.trans h.os, hg.tape.trans h.tape, hg.output.trans h.output, Nat.le_trans h.size hg.size, fun k hk hkx => (hg.block k (Nat.lt_of_lt_of_le hk h.size) (fun e => by injection e with e; omega)).trans (h.block k hk hkx)⟩
set_option maxHeartbeats 12800000 in
set_option maxRecDepth 100000 in
theorem sub_pattern (g gf gx c1 c2 m cap : Nat) (a : Option Addr) (p : ByteArray) (cs : List Nat) (vs : Value) (fr nx : Nat → Bool) (fold : Bool) (w : World) (hU : Utf8Laid w) (hp : p.size ≤ 16777216) (hm : MatAt w g a m cap cs vs fold) (hm2 : m ≤ 16777216)
    (hf : w.rowIs gf 4 (m + 1) (boolsF fr)) (hx : w.rowIs gx 4 (m + 1) (boolsF nx)) (hne : gf ≠ gx) (hcs : ∀ c ∈ cs, c ≤ 1114111) :
    Calls Tryz.prog 156 #[.pointer (some ⟨g, 0, none⟩), .string p, .slice (some ⟨gf, 0, none⟩) (m + 1) c1, .slice (some ⟨gx, 0, none⟩) (m + 1) c2] w fun e w' => e = .returned (.tuple #[]) ∧ w'.rowIs gx 4 (m + 1) (boolsF fun j => nx j || patR fold cs p fr j) ∧ w.grownBy w' (some gx) := by
  have hxl := hx.lt
  have hfl := hf.lt
  have hno : okP p = false → ∀ w', Below w.heap.size w w' → w'.rowIs gx 4 (m + 1) (boolsF fun j => nx j || patR fold cs p fr j) ∧ w.grownBy w' (some gx) := fun h w' hb =>
    ⟨(row_below hx hb).congr fun j _ => by show Value.bool (nx j) = Value.bool (nx j || patR fold cs p fr j); rw [patR_no h, Bool.or_false], below_grownBy hb _⟩
  have HNO := Lib.hid hno
  clear hno
  go_enter Tryz.func156, Tryz.ntmps156
  go_wp2_with ((with_reducible refine wpList_bytes_sl rfl 9 74 5 _ rfl p rfl Tryz.underlying9 Tryz.underlying74 Tryz.underlying5 (by omega) ?_); intro v1 w2 hv1 hb2)
  refine (utf_Chars v1 p _ (hU.below hb2) hp hv1).mono ?_
  rintro e w3 ⟨hb3, h⟩
  have hb13 := Bt hb2 hb3
  rcases h with ⟨hn, v3, rfl, hownc⟩ | ⟨i, hi, v3, rfl, hv3⟩
  · by_cases hz : p.size ≤ 1024
    · have hok : okP p = true := by unfold okP; rw [decide_eq_true hz, hn]; rfl
      obtain ⟨a3, c3, rfl, hc1, hc2, hsl⟩ := chars_sl hownc rfl
      have hlen := chrs_len p
      have hzI : ¬ (1024 : Int) < (p.size : Int) := by omega
      have hxm : ∀ x ∈ (chrs p).1, x ≤ 1114111 := fun c hc => by have := rightC_lt (right_chrs p c hc); omega
      have hpat : patP p = (chrs p).1.map partOf := rfl
      have hrun := fun j => patR_run (fold := fold) (cs := cs) (fr := fr) hok j
      rw [hpat] at hrun
      have hpl : ((chrs p).1.map partOf).length = (chrs p).1.length := List.length_map _
      generalize hxs : (chrs p).1 = xs at *
      clear hzI
      have hzI : ¬ (1024 : Int) < (p.size : Int) := by omega
      have hmk := make_bools xs.length (by omega)
      have hrn := World.rowIs_made w3 (.bool false) (xs.length + 1) 4
      have hst4 : Below w3.heap.size w3 (w3.alloc (.cells (madeCells #[.bool false] (xs.length + 1)) 4)) := (Below.refl _ _).alloc (Nat.le_refl _) _
      have hb14 := Bt hb13 hst4
      have hsl4 := hsl.below hst4
      have hgN := hb13.size
      have HXM := Lib.hid hxm
      have HRUN := Lib.hid hrun
      have HPL := Lib.hid hpl
      have HCS := Lib.hid hcs
      unfold maxLen at hc2
      clear hxm hrun hpl hpat hxs hn hownc hok hsl hst4 hb13 hb3 hb2 hcs HNO hU hv1
      go_wp2_with fail
      generalize w3.alloc (.cells (madeCells #[.bool false] (xs.length + 1)) 4) = w4 at *
      generalize w3.heap.size = gN at *
      clear hmk hz hzI
      go_loopw [10, 34] (fun v x wr => ∃ (i gn : Nat) (F : Nat → Bool), i ≤ m + 1 ∧ x = .int .i64 i ∧ v = .slice (some ⟨gn, 0, none⟩) (xs.length + 1) (xs.length + 1) ∧ wr.rowIs gn 4 (xs.length + 1) (boolsF F) ∧ (i ≤ m → ∀ j, F j = nA fold (xs.map partOf) cs fr i j) ∧ w.heap.size ≤ gn ∧ wr.rowIs gx 4 (m + 1) (boolsF (doneR fold (xs.map partOf) cs fr nx i)) ∧ w.grownBy wr (some gx) ∧ CharsSl wr a3 xs) (fun _ x _ => m + 1 - (intOf x).toNat)
      case atStart => exact ⟨0, gN, fun _ => false, Nat.zero_le _, rfl, rfl, hrn, fun _ _ => rfl, hgN, (row_below hx hb14).congr fun j _ => by
        show Value.bool (nx j) = Value.bool (doneR fold (xs.map partOf) cs fr nx 0 j)
        unfold doneR
        rw [if_neg (by omega)], below_grownBy hb14 _, hsl4⟩
      case round =>
        obtain ⟨i, gn, F, him, rfl, rfl, hr, hF, hgw, hx', hgb, hcl⟩ := hrel
        clear hrn hsl4 hb14 hgN
        by_cases hlt : i < m + 1
        · have hiI : (i : Int) < (m : Int) + 1 := by omega
          have hF0 := hF (by omega)
          have hfr := rowIs_far hf hgb (by simp; exact hne)
          have cfr := hfr.cell (i := i) hlt
          have hfl2 := hfr.lt
          have c0 := hr.cell (i := 0) (by omega)
          have hgl := hr.lt
          have fz0 := hr.frozen 0
          have hgne : gx ≠ gn := by omega
          have e1 : boolsF fr i = .bool (fr i) := rfl
          have e2 : boolsF F 0 = .bool (F 0) := rfl
          rw [e1] at cfr
          rw [e2] at c0
          have hsetr := (hr.set 0 (.bool (F 0 || fr i))).congr (g := boolsF fun q => nA fold (xs.map partOf) cs fr i q || (decide (q = 0) && fr i)) (fun q _ => by
            by_cases hq : q = 0
            · subst hq; rw [if_pos rfl]; show Value.bool _ = Value.bool (nA fold (xs.map partOf) cs fr i 0 || (decide (0 = 0) && fr i)); rw [← hF0 0]; simp
            · rw [if_neg hq]; show Value.bool (F q) = Value.bool (nA fold (xs.map partOf) cs fr i q || (decide (q = 0) && fr i)); rw [hF0 q, decide_eq_false hq]; simp)
          have hsetx := hx'.setOther (a := ⟨gn, 0, none⟩) (by show gx ≠ gn; exact hgne) (.bool (F 0 || fr i))
          have hsetg := only_setCell hgb (p := ⟨gn, 0, none⟩) (.inr hgw) (.bool (F 0 || fr i))
          have hsetc := hcl.grown (only_setCell (grown_refl wr (some gn)) (p := ⟨gn, 0, none⟩) (.inl rfl) (.bool (F 0 || fr i))) (hcl.ne (f := F) hr)
          have HR := Lib.hid hsetr
          have HXX := Lib.hid hsetx
          have HG := Lib.hid hsetg
          have HC := Lib.hid hsetc
          clear hsetr hsetx hsetg hsetc hr hx' hgb hcl hF hF0 hfr
          generalize F 0 = f0 at *
          generalize hfi : fr i = fi at *
          clear e1 e2
          go_upto_region 6 with (fail)
          go_cut [45] (fun v wx => v = .bool (f0 || fi) ∧ wx = wr.setCell ⟨gn, 0, none⟩ (.bool (f0 || fi)))
          case first =>
            clear hfi HR HXX HG HC
            cases f0 <;> cases fi
            all_goals
              go_wp2_with fail
              go_meet
              exact ⟨rfl, rfl⟩
          case rest =>
            obtain ⟨rfl, rfl⟩ := hcut
            have hr6 := HR.out
            have hx6 := HXX.out
            have hg6 := HG.out
            have hc6 := HC.out
            clear HR HXX HG HC cfr c0 fz0
            generalize wr.setCell ⟨gn, 0, none⟩ (.bool (f0 || fi)) = w6 at *
            generalize hAA : (fun q => nA fold (xs.map partOf) cs fr i q || (decide (q = 0) && fi)) = AA at *
            have HAA := Lib.hid hAA
            clear hAA
            go_wp2_with fail
            have hgl6 := hr6.lt
            have hxl6 := hx6.lt
            have hic : i ≤ cs.length := by have := hm.2.2.2.2.1; omega
            go_loopw [49] (fun x wi => ∃ k : Nat, k ≤ xs.length ∧ x = .int .i64 k ∧ wi.rowIs gn 4 (xs.length + 1) (boolsF fun q => if q ≤ k then skipF (xs.map partOf) AA q else AA q) ∧ w6.grownBy wi (some gn)) (fun x _ => xs.length - (intOf x).toNat)
            case atStart => exact ⟨0, Nat.zero_le _, rfl, hr6.congr (fun q _ => by
              show Value.bool (AA q) = Value.bool (if q ≤ 0 then skipF (xs.map partOf) AA q else AA q)
              by_cases h : q ≤ 0
              · obtain rfl : q = 0 := by omega
                rfl
              · rw [if_neg h]), grown_refl _ _⟩
            case round =>
              obtain ⟨k, hkl, rfl, hrk, hgk⟩ := hrel
              by_cases hltk : k < xs.length
              · obtain ⟨x, hxx⟩ : ∃ x, xs[k]? = some x := ⟨_, List.getElem?_eq_getElem hltk⟩
                obtain ⟨b0, rfl, hb0, h1⟩ := (hc6.grown hgk (hc6.ne (f := AA) hr6)) k x hxx
                have hma : manyAt (xs.map partOf) k = decide (x = 42) := by rw [manyAt_of (p := partOf x) (by rw [List.getElem?_map, hxx]; rfl), many_star]
                have hsk := skipF_succ (xs.map partOf) AA k
                rw [hma] at hsk
                have e42 : ((x : Int) == 42) = decide (x = 42) := by rw [Bool.eq_iff_iff]; simp; omega
                have c0 := hrk.cell (i := k) (by omega)
                have c1 := hrk.cell (i := k + 1) (by omega)
                have e0 : boolsF (fun q => if q ≤ k then skipF (xs.map partOf) AA q else AA q) k = .bool (skipF (xs.map partOf) AA k) := by unfold boolsF; simp
                have e1 : boolsF (fun q => if q ≤ k then skipF (xs.map partOf) AA q else AA q) (k + 1) = .bool (AA (k + 1)) := by
                  show Value.bool (if k + 1 ≤ k then _ else _) = _
                  rw [if_neg (by omega)]
                rw [e0] at c0
                rw [e1] at c1
                have hset := fun u => hrk.set (k + 1) u
                have hgr := fun u => only_setCell hgk (p := ⟨gn, k + 1, none⟩) (.inl rfl) u
                have hfz := hrk.frozen (k + 1)
                have hglk := hrk.lt
                generalize skipF (xs.map partOf) AA k = y at *
                generalize AA (k + 1) = z at *
                generalize decide (x = 42) = mm at *
                have HSET := Lib.hid hset
                have HSK := Lib.hid hsk
                have HGR := Lib.hid hgr
                clear hset hsk hgr hma e0 e1 hxx hrk hgk hr6 hx6 hg6 hc6
                cases z <;> cases y <;> cases mm
                all_goals
                  go_wp2_with fail
                  go_roundw
                  case rel => exact ⟨k + 1, by omega, by go_num, skip_row' (HSET.out _) HSK.out, HGR.out _⟩
                  case measure => simp [intOf]; omega
              · obtain rfl : k = xs.length := by omega
                have hrS : wr.rowIs gn 4 (xs.length + 1) (boolsF (nS fold (xs.map partOf) cs fr i)) := hrk.congr fun q hq => by
                  show Value.bool (if q ≤ xs.length then skipF (xs.map partOf) AA q else AA q) = Value.bool (nS fold (xs.map partOf) cs fr i q)
                  rw [if_pos (by omega), ← HAA.out, ← hfi, nS_skip hic (by rw [HPL.out]; omega)]
                have hx7 := rowIs_far hx6 hgk (by simp; exact hgne)
                have hg7 := grown_over hg6 hgk hgw
                have hc7 := hc6.grown hgk (hc6.ne (f := AA) hr6)
                clear hrk hgk hr6 hx6 hg6 hc6 HAA hgl6 hxl6
                have cx := hx7.cell (i := i) hlt
                have cL := hrS.cell (i := xs.length) (by omega)
                have fzx := hx7.frozen i
                have hgl7 := hrS.lt
                have hxl7 := hx7.lt
                have e1 : boolsF (doneR fold (xs.map partOf) cs fr nx i) i = .bool (nx i) := by
                  unfold boolsF doneR
                  rw [if_neg (by omega)]
                have e2 : boolsF (nS fold (xs.map partOf) cs fr i) xs.length = .bool (nS fold (xs.map partOf) cs fr i xs.length) := rfl
                rw [e1] at cx
                rw [e2] at cL
                have hd : (nx i || nS fold (xs.map partOf) cs fr i (xs.map partOf).length) = (nx i || nS fold (xs.map partOf) cs fr i xs.length) := by rw [HPL.out]
                have hsx := done_row (hx7.set i (.bool (nx i || nS fold (xs.map partOf) cs fr i xs.length))) hd
                have hsr := hrS.setOther (a := ⟨gx, i, none⟩) (by show gn ≠ gx; exact fun e => hgne e.symm) (.bool (nx i || nS fold (xs.map partOf) cs fr i xs.length))
                have hsg := only_setCell hg7 (p := ⟨gx, i, none⟩) (.inl rfl) (.bool (nx i || nS fold (xs.map partOf) cs fr i xs.length))
                have hsc := hc7.grown (only_setCell (grown_refl wr (some gx)) (p := ⟨gx, i, none⟩) (.inl rfl) (.bool (nx i || nS fold (xs.map partOf) cs fr i xs.length))) (hc7.ne (f := doneR fold (xs.map partOf) cs fr nx i) hx7)
                have HSX := Lib.hid hsx
                have HSR := Lib.hid hsr
                have HSG := Lib.hid hsg
                have HSC := Lib.hid hsc
                clear hsx hsr hsg hsc hd e1 e2 hx7 hrS hg7 hc7
                generalize hni : nx i = ni at *
                generalize nS fold (xs.map partOf) cs fr i xs.length = sL at *
                go_upto_region 12 with (fail)
                go_cut [86] (fun v wx => v = .bool (ni || sL) ∧ wx = wr.setCell ⟨gx, i, none⟩ (.bool (ni || sL)))
                case first =>
                  clear hni HSX HSR HSG HSC
                  cases ni <;> cases sL
                  all_goals
                    go_wp2_with fail
                    go_meet
                    exact ⟨rfl, rfl⟩
                case rest =>
                  obtain ⟨rfl, rfl⟩ := hcut
                  have hx8 := HSX.out
                  have hr8 := HSR.out
                  have hg8 := HSG.out
                  have hc8 := HSC.out
                  clear HSX HSR HSG HSC cx cL fzx hni
                  generalize wr.setCell ⟨gx, i, none⟩ (.bool (ni || sL)) = w8 at *
                  have hm8 := hm.grown hg8 hx
                  obtain ⟨hgl8, q0, _, q2, hmn, hcl8⟩ := hm8
                  have hrl8 := hr8.lt
                  by_cases him2 : i < m
                  · have hiM : (i : Int) < (m : Int) := by omega
                    obtain ⟨d, hd⟩ : ∃ d, cs[i]? = some d := ⟨_, List.getElem?_eq_getElem (by omega)⟩
                    obtain ⟨bb, ha, hbb, hcd⟩ := hcl8 i d hd
                    rw [ha] at q0
                    have hA := fun W h1 h2 h3 h4 => sub_advance g a3 xs.length c3 gn (xs.length + 1) d i xs cs fr fold W rfl (by omega) h1 h2 h3 h4 HXM.out
                    have HA := Lib.hid hA
                    have hnA : ∀ j, nP fold (xs.map partOf) cs fr i d xs.length j = nA fold (xs.map partOf) cs fr (i + 1) j := fun j => by
                      simp only [nA, hd, HPL.out]
                    have HNA := Lib.hid hnA
                    clear hA hnA hd hcl8 ha hmn
                    go_wp2_with fail
                    refine (HA.out _ hgl8 q2 hc8 hr8).mono ?_
                    rintro e w9 ⟨gn9, rfl, hr9, hgl9, hb9⟩
                    have hx9 := row_below hx8 hb9
                    have hg9 := Bg hg8 hb9
                    have hc9 := hc8.below hb9
                    have hle9 := hg8.size
                    clear HA hx8 hr8 hg8 hc8 hb9 q0 q2 hcd
                    go_wp2_with fail
                    go_roundw
                    case rel => exact ⟨i + 1, gn9, _, by omega, by go_num, rfl, hr9, fun _ j => HNA.out j, by omega, hx9, hg9, hc9⟩
                    case measure => simp [intOf]; omega
                  · have hiM : ¬ (i : Int) < (m : Int) := by omega
                    clear hcl8
                    go_wp2_with fail
                    go_roundw
                    case rel => exact ⟨i + 1, gn, _, by omega, by go_num, rfl, hr8, fun h => absurd h (by omega), hgw, hx8, hg8, hc8⟩
                    case measure => simp [intOf]; omega
        · obtain rfl : i = m + 1 := by omega
          have hmI : ¬ ((m : Int) + 1 < (m : Int) + 1) := by omega
          go_wp2_with fail
          go_end0
          exact ⟨rfl, hx'.congr fun j hj => by
            show Value.bool (doneR fold (xs.map partOf) cs fr nx (m + 1) j) = Value.bool (nx j || patR fold cs p fr j)
            unfold doneR
            rw [if_pos hj, HRUN.out], hgb⟩
    · have hz2 : (1024 : Int) < (p.size : Int) := by omega
      have hok : okP p = false := by unfold okP; rw [decide_eq_false hz]; rfl
      have H := Lib.hid (HNO.out hok _ hb13)
      clear hz hok hn hownc
      go_wp2_with fail
      (try simp only [Exit.inBlock, Exit.then])
      refine bodyPost_ret (results_none rfl _ _ _) rfl ?_
      exact ⟨rfl, H.out⟩
  · obtain ⟨q, rfl⟩ := hv3.ne_nil
    have hok : okP p = false := by unfold okP; rw [hi]; simp
    have H := Lib.hid (HNO.out hok _ hb13)
    clear hi hok
    go_wp2_with fail
    (try simp only [Exit.inBlock, Exit.then])
    refine bodyPost_ret (results_none rfl _ _ _) rfl ?_
    exact ⟨rfl, H.out⟩
end Go.Proofs.YtibhohpamnpkcaaGreatDoor

/- subst's matcher: class. -/
namespace Go.Proofs.YtibhohpamnpkcaaGreatDoor
open Go.RowKit

theorem seg_get {cs : List Nat} {i j k c : Nat} (h : (segL cs i j)[k]? = some c) : cs[i + k]? = some c ∧ i + k < j := by
  unfold segL at h
  rw [List.getElem?_drop, List.getElem?_take] at h
  split at h
  · exact ⟨h, by assumption⟩
  · cases h
theorem seg_len {cs : List Nat} {i j : Nat} (h : j ≤ cs.length) : (segL cs i j).length = j - i := by
  unfold segL
  rw [List.length_drop, List.length_take]
  omega
set_option maxHeartbeats 800000 in
theorem class_fn (g q1 q2 a1 n1 : Nat) (a : Option Addr) (cap m : Nat) (cs : List Nat) (vs : Value) (fold : Bool) (nm am : ByteArray) (sz : Int) (l : List Nat) (w : World) (hm : MatAt w g a m cap cs vs fold) (hq1 : q1 < w.heap.size) (h1 : w.cell? ⟨q1, 0, none⟩ = some (.pointer (some ⟨g, 0, none⟩))) (hq2 : q2 < w.heap.size) (h2 : w.cell? ⟨q2, 1, none⟩ = some (.string am)) (hle : ∀ c ∈ l, c ≤ 1114111) :
    TestNum w 188 #[.pointer (some ⟨q1, 0, none⟩), .pointer (some ⟨q2, 0, none⟩)] (fun c => !withinB fold am c) l := by
  intro W c hc hb
  have hc1 := (hb.cell (p := ⟨q1, 0, none⟩) hq1).trans h1
  have hc2 := (hb.cell (p := ⟨q2, 1, none⟩) hq2).trans h2
  have hf := (hm.below hb).2.2.2.1
  have hl1 := Nat.lt_of_lt_of_le hq1 hb.size
  have hl2 := Nat.lt_of_lt_of_le hq2 hb.size
  have hcle := hle c hc
  have CW := Lib.hid (fun W h => sub_within g c am fold W hcle h)
  show Calls Tryz.prog _ #[.int .i64 (c : Int), .pointer (some ⟨q1, 0, none⟩), .pointer (some ⟨q2, 0, none⟩)] W _
  clear h1 h2 hq1 hq2 hb hm hle hc
  simp only
  generalize withinB fold am c = r at *
  go_enter Tryz.func188, Tryz.ntmps188
  go_wp2_with fail
  refine (CW.out _ hf).mono ?_
  rintro e w2 ⟨rfl, rfl⟩
  go_wp2_with fail
  go_ret
  exact ⟨ret_bool rfl, Below.refl _ _⟩
/-- The places that are reached from the first i. -/
def clsD (fold : Bool) (cs : List Nat) (am : ByteArray) (sz : Nat) (fr : Nat → Bool) (i j : Nat) : Bool := decide (j < i + sz) && clsR fold cs am sz fr j
theorem clsD_skip {fold : Bool} {cs : List Nat} {am : ByteArray} {sz : Nat} {fr : Nat → Bool} {i : Nat} (h : fr i = false) (j : Nat) : clsD fold cs am sz fr i j = clsD fold cs am sz fr (i + 1) j := by
  unfold clsD
  by_cases hj : j = i + sz
  · subst hj
    have : clsR fold cs am sz fr (i + sz) = false := by unfold clsR; rw [show i + sz - sz = i by omega, h]; simp
    rw [this]; simp
  · congr 1
    rw [Bool.eq_iff_iff]; simp; omega
theorem clsD_far {fold : Bool} {cs : List Nat} {am : ByteArray} {sz : Nat} {fr : Nat → Bool} {i n : Nat} (h : n ≤ i + sz) (j : Nat) (hj : j < n) : clsD fold cs am sz fr i j = clsD fold cs am sz fr (i + 1) j := by
  unfold clsD
  congr 1
  rw [Bool.eq_iff_iff]; simp; omega
theorem clsD_set {fold : Bool} {cs : List Nat} {am : ByteArray} {sz : Nat} {fr : Nat → Bool} {i : Nat} (h : fr i = true) (j : Nat) : clsD fold cs am sz fr (i + 1) j = if j = i + sz then (segL cs i (i + sz)).all (withinB fold am) else clsD fold cs am sz fr i j := by
  unfold clsD
  by_cases hj : j = i + sz
  · subst hj
    rw [if_pos rfl, decide_eq_true (by omega)]
    unfold clsR
    rw [show i + sz - sz = i by omega, h]; simp
  · rw [if_neg hj]
    congr 1
    rw [Bool.eq_iff_iff]; simp; omega
set_option maxHeartbeats 6400000 in
set_option maxRecDepth 100000 in
theorem sub_class (g gf c1 m cap sz : Nat) (a : Option Addr) (cs : List Nat) (vs : Value) (fr : Nat → Bool) (fold : Bool) (nm am : ByteArray) (w : World) (hm : MatAt w g a m cap cs vs fold) (hm2 : m ≤ 16777216) (hs1 : 1 ≤ sz) (hs2 : sz ≤ 2)
    (hf : w.rowIs gf 4 (m + 1) (boolsF fr)) (hcs : ∀ c ∈ cs, c ≤ 1114111) (hcap : m ≤ cap) :
    Calls Tryz.prog 158 #[.pointer (some ⟨g, 0, none⟩), .agg #[.string nm, .string am, .int .i64 (sz : Int)], .slice (some ⟨gf, 0, none⟩) (m + 1) c1] w fun e w' => ∃ gn, e = .returned (.slice (some ⟨gn, 0, none⟩) (m + 1) (m + 1)) ∧ w'.rowIs gn 4 (m + 1) (boolsF (clsR fold cs am sz fr)) ∧ w.heap.size ≤ gn ∧ Below w.heap.size w w' := by
  have hst1 : Below w.heap.size w (w.alloc (.cells #[.pointer (some ⟨g, 0, none⟩)] 223)) := (Below.refl _ _).alloc (Nat.le_refl _) _
  have hst2 := hst1.alloc (by simp) (.cells #[.string nm, .string am, .int .i64 (sz : Int)] 261)
  have hrn := World.rowIs_made ((w.alloc (.cells #[.pointer (some ⟨g, 0, none⟩)] 223)).alloc (.cells #[.string nm, .string am, .int .i64 (sz : Int)] 261)) (.bool false) (m + 1) 4
  have hst3 := hst2.alloc (by simp; omega) (.cells (madeCells #[.bool false] (m + 1)) 4)
  have hmk := make_bools m hm2
  rw [World.size_alloc, World.size_alloc] at hrn
  have hB1 : Below (w.alloc (.cells #[.pointer (some ⟨g, 0, none⟩)] 223)).heap.size (w.alloc (.cells #[.pointer (some ⟨g, 0, none⟩)] 223)) ((w.alloc (.cells #[.pointer (some ⟨g, 0, none⟩)] 223)).alloc (.cells #[.string nm, .string am, .int .i64 (sz : Int)] 261)) := (Below.refl _ _).alloc (Nat.le_refl _) _
  have hB2 : Below ((w.alloc (.cells #[.pointer (some ⟨g, 0, none⟩)] 223)).alloc (.cells #[.string nm, .string am, .int .i64 (sz : Int)] 261)).heap.size ((w.alloc (.cells #[.pointer (some ⟨g, 0, none⟩)] 223)).alloc (.cells #[.string nm, .string am, .int .i64 (sz : Int)] 261)) (((w.alloc (.cells #[.pointer (some ⟨g, 0, none⟩)] 223)).alloc (.cells #[.string nm, .string am, .int .i64 (sz : Int)] 261)).alloc (.cells (madeCells #[.bool false] (m + 1)) 4)) := (Below.refl _ _).alloc (Nat.le_refl _) _
  have hq0 : (w.alloc (.cells #[.pointer (some ⟨g, 0, none⟩)] 223)).cell? ⟨w.heap.size, 0, none⟩ = some (.pointer (some ⟨g, 0, none⟩)) := by rw [cell_of_row _ _ _ _ _ _ (heap_alloc_new w (.cells #[.pointer (some ⟨g, 0, none⟩)] 223))]; rfl
  have hq1 := heap_alloc_new (w.alloc (.cells #[.pointer (some ⟨g, 0, none⟩)] 223)) (.cells #[.string nm, .string am, .int .i64 (sz : Int)] 261)
  rw [World.size_alloc] at hq1
  have hc3 := ((Bt hB1 hB2).cell (p := ⟨w.heap.size, 0, none⟩) (by simp)).trans hq0
  have hc4 := (hB2.cell (p := ⟨w.heap.size + 1, 1, none⟩) (by simp)).trans (cell_of_row _ _ 1 _ _ _ hq1)
  have hc5 := (hB2.cell (p := ⟨w.heap.size + 1, 2, none⟩) (by simp)).trans (cell_of_row _ _ 2 _ _ _ hq1)
  rw [show (#[Value.string nm, .string am, .int .i64 (sz : Int)] : Array Value)[1]? = some (.string am) from rfl] at hc4
  rw [show (#[Value.string nm, .string am, .int .i64 (sz : Int)] : Array Value)[2]? = some (.int .i64 (sz : Int)) from rfl] at hc5
  have hsz : (((w.alloc (.cells #[.pointer (some ⟨g, 0, none⟩)] 223)).alloc (.cells #[.string nm, .string am, .int .i64 (sz : Int)] 261)).alloc (.cells (madeCells #[.bool false] (m + 1)) 4)).heap.size = w.heap.size + 3 := by simp
  have hfw := hf.lt
  have hm3 := hm.below hst3
  have hf3 := row_below hf hst3
  have HCS := Lib.hid hcs
  clear hst1 hst2 hcs hB1 hB2 hq0 hq1
  go_enter Tryz.func158, Tryz.ntmps158
  go_wp2_with fail
  generalize ((w.alloc (.cells #[.pointer (some ⟨g, 0, none⟩)] 223)).alloc (.cells #[.string nm, .string am, .int .i64 (sz : Int)] 261)).alloc (.cells (madeCells #[.bool false] (m + 1)) 4) = w3 at *
  clear hmk
  go_loopw [16] (fun x wr => ∃ i : Nat, i ≤ m + 1 ∧ x = .int .i64 i ∧ wr.rowIs (w.heap.size + 2) 4 (m + 1) (boolsF (clsD fold cs am sz fr i)) ∧ w3.grownBy wr (some (w.heap.size + 2))) (fun x _ => m + 1 - (intOf x).toNat)
  case atStart => exact ⟨0, Nat.zero_le _, rfl, hrn.congr fun j _ => by
    show Value.bool false = Value.bool (clsD fold cs am sz fr 0 j)
    unfold clsD clsR
    by_cases h : j < sz
    · rw [decide_eq_false (show ¬ sz ≤ j by omega)]; simp
    · rw [decide_eq_false (show ¬ j < 0 + sz by omega)]; simp, grown_refl _ _⟩
  case round =>
    obtain ⟨i, him, rfl, hr, hgr⟩ := hrel
    by_cases hlt : i < m + 1
    · have hiI : (i : Int) < (m : Int) + 1 := by omega
      have hfi := rowIs_far hf3 hgr (by simp; omega)
      have cf := hfi.cell (i := i) hlt
      have hfl := hfi.lt
      have e1 : boolsF fr i = .bool (fr i) := rfl
      rw [e1] at cf
      have k3 := (cell_grown hgr (p := ⟨w.heap.size, 0, none⟩) (by show w.heap.size < _; omega) (by show w.heap.size ≠ _; omega)).trans hc3
      have k4 := (cell_grown hgr (p := ⟨w.heap.size + 1, 1, none⟩) (by show w.heap.size + 1 < _; omega) (by show w.heap.size + 1 ≠ _; omega)).trans hc4
      have k5 := (cell_grown hgr (p := ⟨w.heap.size + 1, 2, none⟩) (by show w.heap.size + 1 < _; omega) (by show w.heap.size + 1 ≠ _; omega)).trans hc5
      have hgs := hgr.size
      have z1 : IntKind.i64.wrap ((i : Int) + (sz : Int)) = (i : Int) + (sz : Int) := IntWalk.i64_in _ (by omega)
      cases hfr : fr i with
      | false =>
        rw [hfr] at cf
        have hr2 := Lib.hid (hr.congr (g := boolsF (clsD fold cs am sz fr (i + 1))) fun j _ => by show Value.bool _ = Value.bool _; rw [clsD_skip hfr j])
        clear hfr hr
        go_wp2_with fail
        go_roundw
        case rel => exact ⟨i + 1, by omega, by go_num, hr2.out, hgr⟩
        case measure => simp [intOf]; omega
      | true =>
        rw [hfr] at cf
        by_cases hto : i + sz < m + 1
        · have htI : ¬ (m : Int) + 1 ≤ (i : Int) + (sz : Int) := by omega
          obtain ⟨hgl, q0, _, _, hmn, hcl⟩ := hm3.grown (f := fun _ => false) hgr hrn
          have hm4 := hm3.grown (f := fun _ => false) hgr hrn
          obtain ⟨c0, hc0⟩ : ∃ c, cs[i]? = some c := ⟨_, List.getElem?_eq_getElem (by omega)⟩
          obtain ⟨bb, ha, hbb, _⟩ := hcl i c0 hc0
          have hll : (segL cs i (i + sz)).length = sz := by rw [seg_len (by omega)]; omega
          have hna : NumAt wr bb i (segL cs i (i + sz)) := ⟨hbb, fun k c hk => by
            obtain ⟨b', e', _, h'⟩ := hcl (i + k) c (seg_get hk).1
            rw [ha] at e'
            injection e' with e'
            injection e' with e'
            rw [e']
            exact h'⟩
          have hle : ∀ c ∈ segL cs i (i + sz), c ≤ 1114111 := fun c hc => by
            obtain ⟨k, hk⟩ := List.getElem?_of_mem hc
            exact HCS.out c (List.mem_of_getElem? (seg_get hk).1)
          have cI := num_ContainsFunc bb i (cap - i) (segL cs i (i + sz)) 188 #[.pointer (some ⟨w.heap.size, 0, none⟩), .pointer (some ⟨w.heap.size + 1, 0, none⟩)] (fun c => !withinB fold am c) wr hna (by omega) (enters_of Tryz.func188 (by kernel_rfl) rfl) (class_fn g w.heap.size (w.heap.size + 1) 0 0 a cap m cs vs fold nm am sz _ wr hm4 (by omega) k3 (by omega) k4 hle)
          rw [hll] at cI
          have hall : (segL cs i (i + sz)).all (withinB fold am) = !((segL cs i (i + sz)).any fun c => !withinB fold am c) := by rw [List.all_eq_not_any_not]
          have hnew := fun j => clsD_set (fold := fold) (cs := cs) (am := am) (sz := sz) hfr j
          have cn := hr.cell (i := i + sz) hto
          have e2 : boolsF (clsD fold cs am sz fr i) (i + sz) = .bool false := by
            show Value.bool (clsD fold cs am sz fr i (i + sz)) = _
            unfold clsD
            rw [decide_eq_false (by omega)]; rfl
          rw [e2] at cn
          have y1 : (0 : Int) ≤ (i : Int) + (sz : Int) := by omega
          have y2 : (i : Int) + (sz : Int) < (m : Int) + 1 := by omega
          have y3 : ((i : Int) + (sz : Int)).toNat = i + sz := by omega
          have y4 : (i : Int) + (sz : Int) ≤ (cap : Int) := by omega
          have y5 : i + sz - i = sz := by omega
          have y6 : (i : Int) ≤ (i : Int) + (sz : Int) := by omega
          rw [ha] at q0
          have hgnl := hr.lt
          have hb1 : w.heap.size < wr.heap.size := by omega
          have hb2 : w.heap.size + 1 < wr.heap.size := by omega
          have CI := Lib.hid cI
          have HALL := Lib.hid hall
          have HNEW := Lib.hid hnew
          clear cI hall hnew hll hna hle hcl hm4 hc0 e1 e2 hfr ha hmn hto hm3 hm hf hf3 hfi
          generalize (segL cs i (i + sz)).any (fun c => !withinB fold am c) = r at *
          generalize (segL cs i (i + sz)).all (withinB fold am) = al at *
          go_wp2_with fail
          refine CI.out.mono ?_
          rintro e w5 ⟨rfl, hb5⟩
          have hr5 := row_below hr hb5
          have hg5 := Bg hgr hb5
          have cn5 := (hb5.cell (p := ⟨w.heap.size + 2, i + sz, none⟩) hgnl).trans cn
          have fz5 := hr5.frozen (i + sz)
          have hgl5 := hr5.lt
          have hset := hr5.set (i + sz) (.bool (!r))
          have hgset := only_setCell hg5 (p := ⟨w.heap.size + 2, i + sz, none⟩) (.inl rfl) (.bool (!r))
          have hfin := hset.congr (g := boolsF (clsD fold cs am sz fr (i + 1))) (fun j _ => by
            show _ = Value.bool (clsD fold cs am sz fr (i + 1) j)
            rw [HNEW.out j, HALL.out]
            by_cases hj : j = i + sz
            · rw [if_pos hj, if_pos hj]
            · rw [if_neg hj, if_neg hj]; rfl)
          have HFIN := Lib.hid hfin
          have HGS := Lib.hid hgset
          clear hset hgset hfin hr hgr hr5 hg5 HNEW HALL CI cn k3 k4 k5 q0 hb5
          go_wp2_with fail
          go_roundw
          case rel => exact ⟨i + 1, by omega, by go_num, HFIN.out, HGS.out⟩
          case measure => simp [intOf]; omega
        · have htI : (m : Int) + 1 ≤ (i : Int) + (sz : Int) := by omega
          have hr2 := Lib.hid (hr.congr (g := boolsF (clsD fold cs am sz fr (i + 1))) fun j hj => by show Value.bool _ = Value.bool _; rw [clsD_far (by omega) j hj])
          clear hfr hr hto
          go_wp2_with fail
          go_roundw
          case rel => exact ⟨i + 1, by omega, by go_num, hr2.out, hgr⟩
          case measure => simp [intOf]; omega
    · obtain rfl : i = m + 1 := by omega
      have hmI : ¬ ((m : Int) + 1 < (m : Int) + 1) := by omega
      go_wp2_with fail
      go_ret
      exact ⟨w.heap.size + 2, rfl, hr.congr fun j hj => by
        show Value.bool (clsD fold cs am sz fr (m + 1) j) = Value.bool (clsR fold cs am sz fr j)
        unfold clsD
        rw [decide_eq_true (by omega)]; simp, by omega, hst3.grown hgr (by omega) (fun j hj => by cases hj; omega)⟩
end Go.Proofs.YtibhohpamnpkcaaGreatDoor
