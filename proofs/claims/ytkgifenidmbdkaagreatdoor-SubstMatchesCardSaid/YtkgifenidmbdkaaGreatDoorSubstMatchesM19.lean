/- The reference's Check, Match. -/
import Derived.Test.YtkgifenidmbdkaaGreatDoorSubstMatchesM12
import Derived.Test.YtkgifenidmbdkaaGreatDoorSubstMatchesM15
import Derived.Test.YtkgifenidmbdkaaGreatDoorSubstMatchesM10
import Derived.Test.YtkgifenidmbdkaaGreatDoorSubstMatchesM18
import Derived.BigRegion
import Derived.IntWalk

namespace Go.Proofs.YtkgifenidmbdkaaGreatDoor
open Go.RowKit

def RCheckPost (p : ByteArray) (w : World) (e : Ending) (w' : World) : Prop := Below w.heap.size w w' ∧ e = .returned (.tuple #[.int .i64 ((chkP p).1 : Int), .int .i64 ((chkP p).2 : Int)])
theorem chkP_long {p : ByteArray} (h : 1024 < p.size) : chkP p = (14, 1024) := by unfold chkP; rw [if_pos h]
theorem chkP_none {p : ByteArray} (h : ¬ 1024 < p.size) (h2 : (chrs p).2 = none) : chkP p = (0, 0) := by unfold chkP; rw [if_neg h, h2]
theorem chkP_some {p : ByteArray} {i : Nat} (h : ¬ 1024 < p.size) (h2 : (chrs p).2 = some i) : chkP p = (12, i) := by unfold chkP; rw [if_neg h, h2]

set_option maxHeartbeats 800000 in
theorem ref_Check (p : ByteArray) (w : World) (hp : p.size ≤ 16777216) : Calls Tryz.prog 37 #[.string p] w (RCheckPost p w) := by
  by_cases hlong : 1024 < p.size
  · have H1 := Lib.hid (chkP_long hlong)
    go_enter Tryz.func37, Tryz.ntmps37
    go_wp2_with fail
    go_ret2
    exact ⟨Below.refl _ _, by rw [H1.out]; rfl⟩
  · have H1 := Lib.hid (fun h => chkP_none hlong h)
    have H2 := Lib.hid (fun i h => chkP_some (i := i) hlong h)
    go_enter Tryz.func37, Tryz.ntmps37
    go_wp2_with ((with_reducible refine wpList_bytes_sl rfl 9 106 5 _ rfl p rfl Tryz.underlying9 Tryz.underlying106 Tryz.underlying5 (by omega) ?_); intro v1 w1 hv1 hb1)
    refine (ref_Chars v1 p _ (by omega) hv1).mono ?_
    rintro e w2 ⟨hb2, h⟩
    have hb := Bt hb1 hb2
    rcases h with ⟨hn, v3, rfl, _⟩ | ⟨k, hk, a3, rfl⟩
    · have HN := Lib.hid hn
      clear hn
      go_wp2_with fail
      go_ret2
      exact ⟨hb, by rw [H1.out HN.out]; rfl⟩
    · have HN := Lib.hid hk
      clear hk
      go_wp2_with fail
      go_ret2
      exact ⟨hb, by rw [H2.out k HN.out]; rfl⟩

theorem sameC_eq (c d : Nat) (f : Bool) (h1 : c ≠ 42) (h2 : c ≠ 63) : standsB (partOf c) d f = sameC c d f := by rw [partOf_char h1 h2]; rfl
theorem one_many {c : Nat} (h : c ≠ 42) : (partOf c).many = false := by
  unfold partOf
  rw [if_neg h]
  split <;> rfl
theorem drop_of {α : Type} {l : List α} {i : Nat} {d : α} (h : l[i]? = some d) : l.drop i = d :: l.drop (i + 1) := by
  obtain ⟨hi, rfl⟩ := List.getElem?_eq_some_iff.1 h
  exact List.drop_eq_getElem_cons hi
/-- A row of the table, from a place on. -/
def rowTo (f : Bool) (ps : List GPart) (cs : List Nat) (K : Nat) (q : Nat) : Bool := if K ≤ q then langB f ps (cs.drop q) else false
theorem rowTo_set {w : World} {g n K : Nat} {t : TypeId} {f : Bool} {ps : List GPart} {cs : List Nat} {v : Bool} (h : w.rowIs g t n (fun q => if q = K then .bool v else boolsF (rowTo f ps cs (K + 1)) q)) (hv : v = langB f ps (cs.drop K)) : w.rowIs g t n (boolsF (rowTo f ps cs K)) := by
  refine h.congr fun q _ => ?_
  show _ = Value.bool (if K ≤ q then _ else _)
  by_cases hq : q = K
  · subst hq; rw [if_pos rfl, if_pos (Nat.le_refl _), hv]
  · rw [if_neg hq]
    show Value.bool (if K + 1 ≤ q then _ else _) = _
    by_cases h2 : K + 1 ≤ q
    · rw [if_pos h2, if_pos (by omega)]
    · rw [if_neg h2, if_neg (by omega)]
theorem only_drew {a w : World} {row : Option Nat} (h : a.grownBy w row) : a.grownBy w.drew row := ⟨h.os, h.tape, h.output, h.size, h.block⟩
theorem row_end (w : World) (m : Nat) (f : Bool) (cs : List Nat) (hm : cs.length = m) : (w.alloc (.cells ((madeCells #[.bool false] (m + 1)).setIfInBounds m (.bool true)) 4)).rowIs w.heap.size 4 (m + 1) (boolsF fun q => langB f [] (cs.drop q)) := by
  have hs : ((madeCells #[Value.bool false] (m + 1)).setIfInBounds m (.bool true)).size = m + 1 := by simp [size_madeCells]
  have h := World.rowIs_alloc w ((madeCells #[.bool false] (m + 1)).setIfInBounds m (.bool true)) 4 (boolsF fun q => langB f [] (cs.drop q)) (fun i hi => by
    rw [hs] at hi
    rw [Array.getElem?_setIfInBounds]
    show _ = some (Value.bool (langB f [] (cs.drop i)))
    by_cases h0 : m = i
    · subst h0; rw [List.drop_of_length_le (by omega)]; simp [size_madeCells, langB]
    · have hne : cs.drop i ≠ [] := fun e => by have := congrArg List.length e; simp at this; omega
      have : langB f [] (cs.drop i) = false := by
        show (cs.drop i).isEmpty = false
        simpa using hne
      rw [if_neg h0, this]
      simp [madeCells, hi, Nat.mod_one])
  rw [hs] at h
  exact h

set_option maxHeartbeats 6400000 in
set_option maxRecDepth 100000 in
theorem ref_Match (p s : ByteArray) (f : Bool) (w : World) (hp : p.size ≤ 16777216) (hs : s.size ≤ 16777216) :
    Calls Tryz.prog 125 #[.string p, .string s, .bool f] w fun e w' => e = .returned (.bool (matchB p s f)) ∧ Below w.heap.size w w' := by
  go_enter Tryz.func125, Tryz.ntmps125
  go_wp2_with fail
  refine (ref_Check p _ hp).mono ?_
  rintro e w1 ⟨hb1, rfl⟩
  have hk := chkP_ok p
  generalize hkk : chkP p = kk at *
  obtain ⟨k0, k1⟩ := kk
  simp only at hk ⊢
  go_wp2_with ((with_reducible refine wpList_bytes_sl rfl 9 106 5 _ rfl p rfl Tryz.underlying9 Tryz.underlying106 Tryz.underlying5 (by omega) ?_); intro v2 w2 hv2 hb2)
  have hb12 := Bt hb1 hb2
  refine (ref_Chars v2 p _ hp hv2).mono ?_
  rintro e w3 ⟨hb3, hcp⟩
  have hb13 := Bt hb12 hb3
  clear hb1 hb2 hb3 hb12 hkk
  have hpost : (∃ i : Nat, (chrs p).2 = some i) ∨ (chrs p).2 = none := by
    cases hx : (chrs p).2 with
    | none => exact .inr rfl
    | some i => exact .inl ⟨i, rfl⟩
  obtain ⟨vp, ip, rfl, hpown⟩ : ∃ vp ip, e = .returned (.tuple #[vp, .int .i64 ip]) ∧ ((chrs p).2 = none → w3.ownsRow w2.heap.size 3 1 vp (chrs p).1.length ((chrs p).1.map intV)) := by
    rcases hcp with ⟨_, v3, e3, h3⟩ | ⟨i, hi, a3, e3⟩
    · exact ⟨_, _, e3, fun _ => h3⟩
    · exact ⟨_, _, e3, fun h => by rw [hi] at h; cases h⟩
  clear hcp hpost
  go_wp2_with ((with_reducible refine wpList_bytes_sl rfl 9 106 5 _ rfl s rfl Tryz.underlying9 Tryz.underlying106 Tryz.underlying5 (by omega) ?_); intro v4 w4 hv4 hb4)
  have hb14 := Bt hb13 hb4
  refine (ref_Chars v4 s _ hs hv4).mono ?_
  rintro e w5 ⟨hb5, hcs⟩
  have hb15 := Bt hb14 hb5
  have hpown5 : (chrs p).2 = none → w5.ownsRow w2.heap.size 3 1 vp (chrs p).1.length ((chrs p).1.map intV) := fun h => ownsRow_below (ownsRow_below (hpown h) hb4) hb5
  clear hb13 hb4 hb14 hb5 hpown
  by_cases hk0 : k0 = 0
  · subst hk0
    have hok := hk.1 rfl
    clear hk
    rcases hcs with ⟨hn, v6, rfl, hown⟩ | ⟨i, hi, a3, rfl⟩
    · have HV := Lib.hid (matchB_run (f := f) hok hn)
      have hpn := (okP_none hok).1
      obtain ⟨pa, pc, rfl, hpc1, hpc2, hpsl⟩ := chars_sl (hpown5 hpn) rfl
      obtain ⟨sa, sc, rfl, hsc1, hsc2, hssl⟩ := chars_sl hown rfl
      have hpl := chrs_len p
      have hsl := chrs_len s
      have hpat : patP p = (chrs p).1.map partOf := rfl
      have hcle := @chrs_le s
      have hple := @chrs_le p
      generalize (chrs p).1 = l at *
      generalize (chrs s).1 = t at *
      have HPAT := Lib.hid hpat
      have HCLE := Lib.hid hcle
      have HPLE := Lib.hid hple
      have hmk := make_bools t.length (by omega)
      have hrow0 := row_end w5 t.length f t rfl
      have hfz0 := (World.rowIs_made w5 (.bool false) (t.length + 1) 4).frozen t.length
      have hc0 := (World.rowIs_made w5 (.bool false) (t.length + 1) 4).cell (i := t.length) (by omega)
      unfold maxLen at hpc2 hsc2
      clear hn hok hpn hown hpown5 hpat hcle hple
      go_wp2_with fail
      have hb5s := hb15.size
      go_loopw [13, 14] (fun v x wr => ∃ j g : Nat, j ≤ l.length ∧ x = .int .i64 ((j : Int) - 1) ∧ v = .slice (some ⟨g, 0, none⟩) (t.length + 1) (t.length + 1) ∧ wr.rowIs g 4 (t.length + 1) (boolsF fun q => langB f ((l.map partOf).drop j) (t.drop q)) ∧ w5.heap.size ≤ g ∧ Below w5.heap.size w5 wr) (fun _ x _ => (intOf x + 1).toNat)
      case atStart => exact ⟨l.length, w5.heap.size, Nat.le_refl _, rfl, rfl, by rw [List.drop_of_length_le (by simp)]; exact hrow0, Nat.le_refl _, (Below.refl _ _).alloc (Nat.le_refl _) _⟩
      case round =>
        obtain ⟨j, g, hjl, rfl, rfl, hr, hgw, hbr⟩ := hrel
        clear hrow0 hfz0 hc0
        cases j with
        | zero =>
          have hc := hr.cell (i := 0) (by omega)
          have hv : boolsF (fun q => langB f ((l.map partOf).drop 0) (t.drop q)) 0 = .bool (matchB p s f) := by
            show Value.bool (langB f (l.map partOf) t) = _
            rw [HV.out, HPAT.out]
          rw [hv] at hc
          have hb6 := Bt hb15 hbr
          clear hv hr
          go_wp2_with fail
          go_ret
          exact ⟨rfl, hb6⟩
        | succ j =>
          have hj1 : ((j + 1 : Nat) : Int) - 1 = (j : Int) := by omega
          rw [hj1]
          clear hj1
          obtain ⟨c, hc⟩ : ∃ c, l[j]? = some c := ⟨_, List.getElem?_eq_getElem (by omega)⟩
          have hcm := HPLE.out c (List.mem_of_getElem? hc)
          have hdrop : (l.map partOf).drop j = partOf c :: (l.map partOf).drop (j + 1) := drop_of (by rw [List.getElem?_map, hc]; rfl)
          have hone := fun h => one_many (c := c) h
          have hst42 := @stands_wild
          generalize (l.map partOf).drop (j + 1) = ps at *
          have HDROP := Lib.hid hdrop
          have HC := Lib.hid hc
          have HONE := Lib.hid hone
          have hrn := World.rowIs_made wr (.bool false) (t.length + 1) 4
          have hra := hr.alloc (.cells (madeCells #[.bool false] (t.length + 1)) 4)
          have hbr2 := hbr.alloc hbr.size (.cells (madeCells #[.bool false] (t.length + 1)) 4)
          have hgl := hr.lt
          have hwr := hbr.size
          clear hdrop hc hone hst42
          go_wp2_with fail
          generalize hw3 : wr.alloc (.cells (madeCells #[.bool false] (t.length + 1)) 4) = w6 at *
          generalize hgn : wr.heap.size = gn at *
          have hgg : g ≠ gn := by omega
          have hsz3 : gn < w6.heap.size := hrn.lt
          clear hw3 hgn hr hbr
          go_loopw [16] (fun x wi => ∃ K : Nat, K ≤ t.length + 1 ∧ x = .int .i64 ((K : Int) - 1) ∧ wi.rowIs gn 4 (t.length + 1) (boolsF (rowTo f (partOf c :: ps) t K)) ∧ w6.grownBy wi (some gn)) (fun x _ => (intOf x + 1).toNat)
          case atStart => exact ⟨t.length + 1, Nat.le_refl _, by congr 1; omega, hrn.congr (fun q hq => by
            show _ = Value.bool (if t.length + 1 ≤ q then _ else _)
            rw [if_neg (by omega)]), grown_refl _ _⟩
          case round =>
            obtain ⟨K, hK, rfl, hri, hgi⟩ := hrel
            have hgi2 := hgi.size
            cases K with
            | zero =>
              have hb7 : Below w5.heap.size w5 wr := hbr2.grown hgi hbr2.size (fun j hj => by cases hj; omega)
              have hr7 : wr.rowIs gn 4 (t.length + 1) (boolsF fun q => langB f ((l.map partOf).drop j) (t.drop q)) := hri.congr fun q _ => by
                show Value.bool (if 0 ≤ q then _ else _) = _
                rw [if_pos (Nat.zero_le _), ← HDROP.out]; rfl
              clear hri hgi hra hrn hbr2 hmk
              go_wp2_with fail
              go_roundw
              case rel => exact ⟨j, gn, by omega, rfl, rfl, hr7, by omega, hb7⟩
              case measure => simp [intOf]
            | succ K =>
              have hK1 : ((K + 1 : Nat) : Int) - 1 = (K : Int) := by omega
              rw [hK1]
              clear hK1
              obtain ⟨lb, rfl, hlb, hlc⟩ := ((hpsl.below hbr2).grown hgi ((hpsl.below hbr2).ne (f := fun _ => false) hrn)) j c HC.out
              have hrg := rowIs_far hra hgi (by simp; exact hgg)
              have cg := hrg.cell (i := K) (by omega)
              have hcn := hri.cell (i := K) (by omega)
              have hfz := hri.frozen K
              have hset := fun u => hri.set K u
              have hgs := fun u => only_setCell hgi (p := ⟨gn, K, none⟩) (.inl rfl) u
              have hfin := fun w' v h hv => @rowTo_set w' gn (t.length + 1) K 4 f (partOf c :: ps) t v h hv
              have HFIN := Lib.hid hfin
              have HSET := Lib.hid hset
              have HGS := Lib.hid hgs
              have e0 : boolsF (fun q => langB f ps (t.drop q)) K = .bool (langB f ps (t.drop K)) := rfl
              rw [e0] at cg
              clear hfin hset hgs e0
              by_cases h42 : c = 42
              · subst h42
                have hpm : (partOf 42).many = true := rfl
                by_cases hKm : K < t.length
                · obtain ⟨d, hd⟩ : ∃ d, t[K]? = some d := ⟨_, List.getElem?_eq_getElem hKm⟩
                  have hdk := drop_of hd
                  have cn1 := hri.cell (i := K + 1) (by omega)
                  have e1 : boolsF (rowTo f (partOf 42 :: ps) t (K + 1)) (K + 1) = .bool (langB f (partOf 42 :: ps) (t.drop (K + 1))) := by
                    show Value.bool (if K + 1 ≤ K + 1 then _ else _) = _
                    rw [if_pos (Nat.le_refl _)]
                  rw [e1] at cn1
                  have hv : langB f (partOf 42 :: ps) (t.drop K) = (langB f ps (t.drop K) || langB f (partOf 42 :: ps) (t.drop (K + 1))) := by
                    rw [hdk, langB_star_cons f ps _ hpm, ← hdk]
                    rfl
                  generalize langB f ps (t.drop K) = x at *
                  generalize langB f (partOf 42 :: ps) (t.drop (K + 1)) = y at *
                  have HV2 := Lib.hid hv
                  clear hv hdk e1 hd hpm hmk
                  cases x <;> cases y
                  all_goals
                    go_wp2_with fail
                    go_roundw
                    case rel => exact ⟨K, by omega, rfl, HFIN.out _ _ (HSET.out _) (by rw [HV2.out]; rfl), HGS.out _⟩
                    case measure => simp [intOf]
                · obtain rfl : K = t.length := by omega
                  have hv : langB f (partOf 42 :: ps) (t.drop t.length) = langB f ps (t.drop t.length) := by
                    rw [List.drop_of_length_le (Nat.le_refl _), langB_star_end f ps _ hpm]
                  generalize langB f ps (t.drop t.length) = x at *
                  have HV2 := Lib.hid hv
                  clear hv hpm hmk
                  cases x
                  all_goals
                    go_wp2_with fail
                    go_roundw
                    case rel => exact ⟨t.length, by omega, rfl, HFIN.out _ _ (HSET.out _) (by rw [HV2.out]), HGS.out _⟩
                    case measure => simp [intOf]
              · have hpm := HONE.out h42
                have e42 : ((c : Int) == 42) = false := by rw [beq_eq_false_iff_ne]; omega
                have HSETD := Lib.hid (fun u => hri.drew.set K u)
                have HGSD := Lib.hid (fun u => only_setCell (only_drew hgi) (p := ⟨gn, K, none⟩) (.inl rfl) u)
                clear HSET HGS
                by_cases hKm : K < t.length
                · obtain ⟨d, hd⟩ : ∃ d, t[K]? = some d := ⟨_, List.getElem?_eq_getElem hKm⟩
                  obtain ⟨tb, rfl, htb, htc⟩ := ((hssl.below hbr2).grown hgi ((hssl.below hbr2).ne (f := fun _ => false) hrn)) K d hd
                  have hdm := HCLE.out d (List.mem_of_getElem? hd)
                  have hdk := drop_of hd
                  have cg1 := hrg.cell (i := K + 1) (by omega)
                  have e1 : boolsF (fun q => langB f ps (t.drop q)) (K + 1) = .bool (langB f ps (t.drop (K + 1))) := rfl
                  rw [e1] at cg1
                  have hv : langB f (partOf c :: ps) (t.drop K) = (standsB (partOf c) d f && langB f ps (t.drop (K + 1))) := by
                    rw [hdk, langB_one_cons f ps _ hpm]
                  generalize langB f ps (t.drop (K + 1)) = y at *
                  have HV2 := Lib.hid hv
                  have hKt : (K : Int) < (t.length : Int) := by omega
                  clear hv hdk e1 hd hpm hmk
                  have d1 : decide ((K : Int) < (t.length : Int)) = true := decide_eq_true hKt
                  by_cases h63 : c = 63
                  · subst h63
                    have hw63 : standsB (partOf 63) d f = true := rfl
                    rw [hw63] at HV2
                    clear hw63
                    go_wp2_with fail
                    go_region
                    go_wp2_with fail
                    go_roundw
                    case rel => exact ⟨K, by omega, rfl, HFIN.out _ _ (HSETD.out _) (by rw [HV2.out]; rfl), HGSD.out _⟩
                    case measure => simp [intOf]
                  · have e63 : ((c : Int) == 63) = false := by rw [beq_eq_false_iff_ne]; omega
                    have cS : ∀ W, Calls Tryz.prog 154 #[.int .i64 (c : Int), .int .i64 (d : Int), .bool f] W (fun e w' => e = .returned (.bool (sameC c d f)) ∧ w' = W) := fun W => (ref_same c d f hcm hdm W).mono fun _ _ h => ⟨h.1, h.2.symm⟩
                    rw [sameC_eq c d f h42 h63] at HV2
                    generalize sameC c d f = x at *
                    have CS := Lib.hid cS
                    clear cS
                    cases x
                    all_goals
                      go_wp2_with fail
                      refine wp_region_still_tail 33 (by kernel_rfl) (by kernel_rfl) ?_
                      simp only [List.take_succ_cons, List.take_zero, List.drop_succ_cons, List.drop_zero]
                      change wpStill _ _ wr.drew (fun a' => wpList _ _ _ _ a' wr.drew) _ _
                      refine wpStill_of_quiet _ _ ?_
                      repeat (first | go_big_quiet_skip | (go_big_quiet_want; go_big_quiet_op; first | go_big_quiet_on | (refine ⟨_, CS.out _, ?_⟩; go_big_quiet_on)))
                      refine wpQuiet_nil ?_
                      go_wp2_with fail
                      go_roundw
                      case rel => exact ⟨K, by omega, rfl, HFIN.out _ _ (HSETD.out _) (by rw [HV2.out]; rfl), HGSD.out _⟩
                      case measure => simp [intOf]
                · have hv : langB f (partOf c :: ps) (t.drop K) = false := by
                    rw [List.drop_of_length_le (by omega), langB_one_end f ps _ hpm]
                  have HV2 := Lib.hid hv
                  have d1 : decide ((K : Int) < (t.length : Int)) = false := decide_eq_false (by omega)
                  have d2 : decide (K < t.length) = false := decide_eq_false hKm
                  clear hv hpm hmk hKm
                  go_wp2_with fail
                  go_region
                  go_wp2_with fail
                  go_roundw
                  case rel => exact ⟨K, by omega, rfl, HFIN.out _ _ (HSETD.out _) (by rw [HV2.out]), HGSD.out _⟩
                  case measure => simp [intOf]
    · have HV := Lib.hid (matchB_bad (p := p) (f := f) hi)
      have d3 : decide ((0 : Int) ≤ (i : Int)) = true := decide_eq_true (by omega)
      clear hpown5 hi hok
      go_wp2_with fail
      go_ret
      exact ⟨ret_bool HV.out.symm, hb15⟩
  · have HV := Lib.hid (matchB_no (s := s) (f := f) (by rw [Bool.eq_false_iff]; exact fun h => hk0 (hk.2 h)))
    have e3 : ((k0 : Int) != 0) = true := by rw [bne_iff_ne]; omega
    clear hpown5 hk
    rcases hcs with ⟨hn, v6, rfl, hown⟩ | ⟨i, hi, a3, rfl⟩
    all_goals
      first | clear hn hown | clear hi
      go_wp2_with fail
      go_ret
      exact ⟨ret_bool HV.out.symm, hb15⟩
end Go.Proofs.YtkgifenidmbdkaaGreatDoor
