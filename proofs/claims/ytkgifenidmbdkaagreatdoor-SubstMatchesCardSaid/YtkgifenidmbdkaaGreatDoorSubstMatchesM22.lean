/- The reference's rest of chapter 19. -/
import Derived.Test.YtkgifenidmbdkaaGreatDoorSubstMatchesM20
import Derived.Test.YtkgifenidmbdkaaGreatDoorSubstMatchesM21
import Derived.Test.YtkgifenidmbdkaaGreatDoorSubstMatchesM16
import Derived.Test.YtkgifenidmbdkaaGreatDoorSubstMatchesM18

namespace Go.Proofs.YtkgifenidmbdkaaGreatDoor
open Go.RowKit

/-- The places of a class's variable that are told so far. -/
def clsF (fold : Bool) (cs : List Nat) (am : ByteArray) (sz : Nat) (behind : Nat → Bool) (n j : Nat) : Bool := decide (j < n) && clsB fold cs am sz behind j
theorem clsF_end {fold : Bool} {cs : List Nat} {am : ByteArray} {sz : Nat} {behind : Nat → Bool} {n : Nat} (h : ¬ n + sz < cs.length + 1) (j : Nat) : clsF fold cs am sz behind n j = clsB fold cs am sz behind j := by
  unfold clsF
  by_cases hj : j < n
  · rw [decide_eq_true hj, Bool.true_and]
  · rw [decide_eq_false hj, Bool.false_and]
    unfold clsB
    rw [decide_eq_false (by omega), Bool.false_and]
theorem clsF_set {w : World} {g m n : Nat} {t : TypeId} {fold : Bool} {cs : List Nat} {am : ByteArray} {sz : Nat} {behind : Nat → Bool} {d : Bool} (h : w.rowIs g t m (fun j => if j = n then .bool d else boolsF (clsF fold cs am sz behind n) j)) (hd : d = clsB fold cs am sz behind n) : w.rowIs g t m (boolsF (clsF fold cs am sz behind (n + 1))) := h.congr fun j _ => by
  show _ = Value.bool _
  unfold clsF
  by_cases hj : j = n
  · subst hj; rw [if_pos rfl, decide_eq_true (by omega), Bool.true_and, hd]
  · rw [if_neg hj]
    show Value.bool (decide (j < n) && _) = _
    congr 2
    rw [Bool.eq_iff_iff]; simp; omega
theorem find_small {vars : List SVar} {tx : ByteArray} (hvs : ∀ v ∈ vars, v.2.length ≤ 16777216 ∧ ∀ s ∈ v.2, s.size ≤ 16777216) : ((findV vars tx).getD []).length ≤ 16777216 ∧ ∀ s ∈ (findV vars tx).getD [], s.size ≤ 16777216 := by
  unfold findV
  cases hfv : vars.find? (fun v => decide (v.1 = tx)) with
  | none => exact ⟨by simp, fun s hs => by simp at hs⟩
  | some v => exact hvs v (List.mem_of_find?_eq_some hfv)
theorem own_small {s am : ByteArray} {sz : Nat} (h : ownC s = some (am, sz)) : am.size ≤ 62 := by
  have hall : ∀ c ∈ clsT, c.2.1.size ≤ 62 := by decide
  unfold ownC at h
  cases hf : clsT.find? (fun c => decide (c.1 = s)) with
  | none => rw [hf] at h; cases h
  | some c =>
    rw [hf] at h
    simp at h
    have := hall c (List.mem_of_find?_eq_some hf)
    rw [h] at this
    exact this
set_option maxHeartbeats 12800000 in
set_option maxRecDepth 100000 in
theorem ref19_rest (p : ByteArray) (av a : Option Addr) (vcap cap ge c1 : Nat) (vars : List SVar) (cs : List Nat) (ends : Nat → Bool) (fold : Bool) (hp : p.size ≤ 16777216) (hcs : ∀ c ∈ cs, rightC c) (hn : cs.length ≤ 4194304) (hc : cs.length ≤ cap) (hcm : cap ≤ maxLen) (hvl : vars.length ≤ 16777216) (hvs : ∀ v ∈ vars, v.2.length ≤ 16777216 ∧ ∀ s ∈ v.2, s.size ≤ 16777216) :
    ∀ (f k : Nat) (w : World), VarsSl w av vars → CharsSl w a cs → w.rowIs ge 4 (cs.length + 1) (boolsF ends) → k ≤ p.size → p.size - k < f → (pcF p f k).2 < 0 →
    Calls Tryz.prog 51 #[.string p, .int .i64 (k : Int), .slice av vars.length vcap, .slice a cs.length cap, .slice (some ⟨ge, 0, none⟩) (cs.length + 1) c1, .bool fold] w (StepPost cs.length (restF fold cs vars p ends f k) w) := by
  intro f
  induction f with
  | zero => intro k w _ _ _ _ h; omega
  | succ f ih =>
    intro k w hv hsl hr hk hf hg
    have hN := ref19_next p k w hp hk
    have HVS := Lib.hid hvs
    have HCS := Lib.hid hcs
    have hmk := make_bools cs.length (by omega)
    have hrl := hr.lt
    rcases pcF_cases hk hg with h1 | ⟨i, q, h1, h2, h3, h4, h5⟩
    · have hR : restF fold cs vars p ends (f + 1) k = valR fold cs [p.extract k p.size] ends := by rw [restF, h1, if_pos (by decide)]
      rw [h1] at hN
      have hal : Below w.heap.size w (w.alloc (.cells #[.string (p.extract k p.size)] 9)) := (Below.refl _ _).alloc (Nat.le_refl _) _
      have hes := extract_tail_size p k hk
      have CV := Lib.hid (ref19_values (.slice (some ⟨w.heap.size, 0, none⟩) 1 1) [p.extract k p.size] a cap ge c1 cs ends fold _ (strs_single (heap_alloc_new w (.cells #[.string (p.extract k p.size)] 9))) (hsl.below hal) hcs hn hc hcm (row_below hr hal) (by simp) (fun s hs => by rw [List.mem_singleton] at hs; rw [hs]; omega))
      have HN := Lib.hid hN
      have HR := Lib.hid hR
      have y1 : (0 : Int) ≤ (k : Int) := by omega
      have y2 : (k : Int) ≤ (p.size : Int) := by omega
      clear hN hR h1 hg ih hes hv hsl hr hmk hvs hcs
      go_enter Tryz.func51, Tryz.ntmps51
      go_wp2_with fail
      refine HN.out.mono ?_
      rintro e w1 ⟨rfl, rfl⟩
      go_wp2_with fail
      refine CV.out.mono ?_
      rintro e w2 ⟨gn, rfl, hr2, hgn, hb2⟩
      go_wp2_with fail
      go_ret
      rw [World.size_alloc] at hgn
      exact ⟨gn, rfl, hr2.congr fun j _ => by rw [HR.out], by omega, Bt hal hb2⟩
    · have hR : restF fold cs vars p ends (f + 1) k = valR fold cs [p.extract k i] (hereR fold cs vars (p.extract (i + 2) q) (restF fold cs vars p ends f (q + 1))) := by
        rw [restF, h1]
        simp only
        rw [if_neg (by omega), Int.toNat_natCast, Int.toNat_natCast]
      rw [h1] at hN
      have hrec := ih (q + 1) w hv hsl hr (by omega) (by omega) h5
      rw [show ((q + 1 : Nat) : Int) = (q : Int) + 1 by omega] at hrec
      have hes1 := extract_size p k i h2 (by omega)
      have HREC := Lib.hid hrec
      have HN := Lib.hid hN
      have HR := Lib.hid hR
      have HV := Lib.hid hv
      have HSL := Lib.hid hsl
      have z1 : IntKind.i64.wrap ((q : Int) + 1) = (q : Int) + 1 := IntWalk.i64_in _ (by omega)
      have z2 : IntKind.i64.wrap ((i : Int) + 2) = (i : Int) + 2 := IntWalk.i64_in _ (by omega)
      have y1 : (0 : Int) ≤ (k : Int) := by omega
      have y2 : (k : Int) ≤ (i : Int) := by omega
      have y3 : (i : Int) ≤ (p.size : Int) := by omega
      have y4 : (0 : Int) ≤ (i : Int) + 2 := by omega
      have y5 : (i : Int) + 2 ≤ (q : Int) := by omega
      have y6 : (q : Int) ≤ (p.size : Int) := by omega
      have y7 : ((i : Int) + 2).toNat = i + 2 := by omega
      have y8 : ¬ (i : Int) < 0 := by omega
      have HRW := Lib.hid hr
      clear hN hR h1 hg ih hrec hv hsl hr hvs hcs h5
      generalize restF fold cs vars p ends f (q + 1) = B at *
      go_enter Tryz.func51, Tryz.ntmps51
      go_wp2_with fail
      refine HN.out.mono ?_
      rintro e w1 ⟨rfl, rfl⟩
      go_wp2_with fail
      refine HREC.out.mono ?_
      rintro e w2 ⟨gb, rfl, hrb, hgb, hb2⟩
      clear HREC HN
      go_wp2_with fail
      refine (ref19_Class (p.extract (i + 2) q) _).mono ?_
      rintro e w3 ⟨hcl, hb3⟩
      have hb03 := Bt hb2 hb3
      have hrb3 := row_below hrb hb3
      have hm0 := World.rowIs_made w3 (.bool false) (cs.length + 1) 4
      have hal4 : Below w3.heap.size w3 (w3.alloc (.cells (madeCells #[.bool false] (cs.length + 1)) 4)) := (Below.refl _ _).alloc (Nat.le_refl _) _
      have hb04 := Bt hb03 hal4
      have hrb4 := row_below hrb3 hal4
      have hs34 : w.heap.size ≤ w3.heap.size := hb03.size
      have hgb3 := hrb3.lt
      rcases hcl with ⟨ho, rfl⟩ | ⟨am, sz, ho, hz1, hz2, rfl⟩
      · have HH : hereR fold cs vars (p.extract (i + 2) q) B = valR fold cs ((findV vars (p.extract (i + 2) q)).getD []) B := by unfold hereR; rw [ho]
        rw [HH] at HR
        obtain ⟨hll, hls⟩ := find_small (tx := (p.extract (i + 2) q)) HVS.out
        have CF := Lib.hid (ref19_Find av vcap vars (p.extract (i + 2) q) _ (HV.out.below hb04) hvl)
        have HLS := Lib.hid hls
        clear ho HH hb3 hb2 hrb hrb3 hb03 hls hm0
        generalize (findV vars (p.extract (i + 2) q)).getD [] = L at *
        generalize (findV vars (p.extract (i + 2) q)).isSome = bs at *
        go_wp2_with fail
        generalize w3.alloc (.cells (madeCells #[.bool false] (cs.length + 1)) 4) = w4 at *
        clear hmk hal4
        refine CF.out.mono ?_
        rintro e w5 ⟨⟨u, rfl, hu⟩, rfl⟩
        have CV := Lib.hid (ref19_values u L a cap gb (cs.length + 1) cs B fold w4 hu (HSL.out.below hb04) HCS.out hn hc hcm hrb4 hll HLS.out)
        obtain ⟨ua, un, uc, rfl⟩ : ∃ a n c, u = .slice a n c := by obtain ⟨a, c, e, _⟩ := hu; exact ⟨_, _, _, e⟩
        clear hu CF
        go_wp2_with fail
        refine CV.out.mono ?_
        rintro e w6 ⟨g6, rfl, hr6, hg6, hb6⟩
        have hb06 := Bt hb04 hb6
        have hal7 : Below w6.heap.size w6 (w6.alloc (.cells #[.string (p.extract k i)] 9)) := (Below.refl _ _).alloc (Nat.le_refl _) _
        have hb07 := Bt hb06 hal7
        have CW := Lib.hid (ref19_values (.slice (some ⟨w6.heap.size, 0, none⟩) 1 1) [p.extract k i] a cap g6 (cs.length + 1) cs _ fold _ (strs_single (heap_alloc_new w6 (.cells #[.string (p.extract k i)] 9))) (HSL.out.below hb07) HCS.out hn hc hcm (row_below hr6 hal7) (by simp) (fun s hs => by rw [List.mem_singleton] at hs; rw [hs]; omega))
        have hs07 := hb07.size
        clear hr6 hal7 hb06 hb6 hb04 CV hrb4 hes1
        go_wp2_with fail
        refine CW.out.mono ?_
        rintro e w8 ⟨g8, rfl, hr8, hg8, hb8⟩
        have hb08 := Bt hb07 hb8
        clear hb07 hb8 CW
        go_wp2_with fail
        go_ret
        exact ⟨g8, rfl, hr8.congr fun j _ => by rw [HR.out], by omega, hb08⟩
      · have HH : hereR fold cs vars (p.extract (i + 2) q) B = clsB fold cs am sz B := by unfold hereR; rw [ho]
        rw [HH] at HR
        have ham := own_small ho
        generalize hz : (sz : Int) = z
        have e1 : (0 : Int) < z := by omega
        have HZ := Lib.hid hz
        clear hz
        clear ho HH hb3 hb2 hrb hrb3 hb03
        go_wp2_with fail
        have hw4 : (w3.alloc (.cells (madeCells #[.bool false] (cs.length + 1)) 4)).heap.size = w3.heap.size + 1 := by simp
        generalize w3.alloc (.cells (madeCells #[.bool false] (cs.length + 1)) 4) = w4 at *
        clear hmk hal4 e1 hz1 y8
        generalize w3.heap.size = gn at *
        go_loopw [19] (fun x wr => ∃ n : Nat, n ≤ cs.length + 1 ∧ x = .int .i64 n ∧ wr.rowIs gn 4 (cs.length + 1) (boolsF (clsF fold cs am sz B n)) ∧ w4.grownBy wr (some gn)) (fun x _ => cs.length + 1 - (intOf x).toNat)
        case atStart => exact ⟨0, Nat.zero_le _, rfl, hm0.congr fun j _ => by show Value.bool false = Value.bool (clsF fold cs am sz B 0 j); unfold clsF; rw [decide_eq_false (by omega)]; rfl, grown_refl _ _⟩
        case round =>
          obtain ⟨n, hnl, rfl, hrr, hgr⟩ := hrel
          have z3 : IntKind.i64.wrap ((n : Int) + z) = (n : Int) + z := IntWalk.i64_in _ (by have := HZ.out; omega)
          have hgs := hgr.size
          by_cases hlt : n + sz < cs.length + 1
          · have hltI : (n : Int) + z < (cs.length : Int) + 1 := by have := HZ.out; omega
            have hrbr := rowIs_far hrb4 hgr (by simp; omega)
            have cb := hrbr.cell (i := n + sz) hlt
            have hgbr := hrbr.lt
            have e2 : boolsF B (n + sz) = .bool (B (n + sz)) := rfl
            rw [e2] at cb
            have cn := hrr.cell (i := n) (by omega)
            have fz := hrr.frozen n
            have hgnr := hrr.lt
            have y9 : ((n : Int) + z).toNat = n + sz := by have := HZ.out; omega
            have y10 : (0 : Int) ≤ (n : Int) + z := by have := HZ.out; omega
            have hcb : clsB fold cs am sz B n = (B (n + sz) && (segL cs n (n + sz)).all (withinB fold am)) := by unfold clsB; rw [decide_eq_true hlt, Bool.true_and]
            have HCB := Lib.hid hcb
            clear hcb
            cases hB : B (n + sz) with
            | false =>
              rw [hB] at cb
              have hset := clsF_set (hrr.set n (.bool false)) (by rw [HCB.out, hB]; rfl)
              have hgset := only_setCell hgr (p := ⟨gn, n, none⟩) (.inl rfl) (.bool false)
              have HS := Lib.hid hset
              have HG := Lib.hid hgset
              clear hset hgset hrr hgr hrbr hB HCB
              go_wp2_with fail
              go_roundw
              case rel => exact ⟨n + 1, by omega, by go_num, HS.out, HG.out⟩
              case measure => simp [intOf]; omega
            | true =>
              rw [hB] at cb
              have hgb4 : Below w.heap.size w wr := hb04.grown hgr hb04.size (fun j hj => by cases hj; omega)
              have hca := (ref19_among a cap n sz cs am fold wr (HSL.out.below hgb4) (fun c hc => by have := HCS.out c hc; unfold rightC at this; omega) (by omega) (by omega) (by omega))
              rw [HZ.out] at hca
              have CA := Lib.hid hca
              clear hca
              rw [hB, Bool.true_and] at HCB
              generalize (segL cs n (n + sz)).all (withinB fold am) = al at *
              clear hrbr hB
              go_wp2_with fail
              refine CA.out.mono ?_
              rintro e w5 ⟨rfl, hb5⟩
              have hr5 := row_below hrr hb5
              have hg5 := Bg hgr hb5
              have cn5 := (hb5.cell (p := ⟨gn, n, none⟩) hgnr).trans cn
              have fz5 := hr5.frozen n
              have hgl5 := hr5.lt
              have hset := clsF_set (hr5.set n (.bool al)) HCB.out.symm
              have hgset := only_setCell hg5 (p := ⟨gn, n, none⟩) (.inl rfl) (.bool al)
              have HS := Lib.hid hset
              have HG := Lib.hid hgset
              clear hset hgset hrr hgr hr5 hg5 CA cn cb fz hb5 hgb4
              go_wp2_with fail
              go_roundw
              case rel => exact ⟨n + 1, by omega, by go_num, HS.out, HG.out⟩
              case measure => simp [intOf]; omega
          · have hltI : ¬ (n : Int) + z < (cs.length : Int) + 1 := by have := HZ.out; omega
            have hgb4 : Below w.heap.size w wr := hb04.grown hgr hb04.size (fun j hj => by cases hj; omega)
            have hrr2 := hrr.congr (g := boolsF (clsB fold cs am sz B)) (fun j _ => by show Value.bool _ = Value.bool _; rw [clsF_end hlt])
            have hal7 : Below wr.heap.size wr (wr.alloc (.cells #[.string (p.extract k i)] 9)) := (Below.refl _ _).alloc (Nat.le_refl _) _
            have hb07 := Bt hgb4 hal7
            have CW := Lib.hid (ref19_values (.slice (some ⟨wr.heap.size, 0, none⟩) 1 1) [p.extract k i] a cap gn (cs.length + 1) cs _ fold _ (strs_single (heap_alloc_new wr (.cells #[.string (p.extract k i)] 9))) (HSL.out.below hb07) HCS.out hn hc hcm (row_below hrr2 hal7) (by simp) (fun s hs => by rw [List.mem_singleton] at hs; rw [hs]; omega))
            have hs07 := hb07.size
            clear hrr2 hal7 hgb4 hb04 hrb4 hes1 hrr hgr hm0
            go_wp2_with fail
            refine CW.out.mono ?_
            rintro e w8 ⟨g8, rfl, hr8, hg8, hb8⟩
            have hb08 := Bt hb07 hb8
            clear hb07 hb8 CW
            go_wp2_with fail
            go_ret
            exact ⟨g8, rfl, hr8.congr fun j _ => by rw [HR.out], by omega, hb08⟩
end Go.Proofs.YtkgifenidmbdkaaGreatDoor

/- Plain: the reference's Check of chapter 19. -/
namespace Go.Proofs.YtkgifenidmbdkaaGreatDoor
open Go.RowKit

def ckR (p : ByteArray) (vars : List SVar) : Nat → Nat → Nat × Nat
  | 0, _ => (0, 0)
  | f + 1, k => if (nextP p k).1 < 0 then (0, 0) else if (nextP p k).2 < 0 then (10, (nextP p k).1.toNat)
      else if (ownC (p.extract ((nextP p k).1.toNat + 2) (nextP p k).2.toNat)).isNone = true ∧ (findV vars (p.extract ((nextP p k).1.toNat + 2) (nextP p k).2.toNat)).isNone = true then (30, (nextP p k).1.toNat)
      else ckR p vars f ((nextP p k).2.toNat + 1)
def tellV (vars : List SVar) (x : List PcS × Int) : Nat × Nat := match missV vars x.1 with
  | some k => (30, k)
  | none => if x.2 < 0 then (0, 0) else (10, x.2.toNat)
theorem missV_plain (vars : List SVar) (q : PcS) (l : List PcS) (h : q.isVar = false) : missV vars (q :: l) = missV vars l := by rw [missV, if_neg (by rw [h]; simp)]
theorem missV_pre (vars : List SVar) (p : ByteArray) (k n : Nat) (l : List PcS) : missV vars (preP p k n ++ l) = missV vars l := by
  unfold preP
  split
  · exact missV_plain vars _ l rfl
  · rfl
theorem ck_same (p : ByteArray) (vars : List SVar) : ∀ f k, k ≤ p.size → p.size - k < f → tellV vars (pcF p f k) = ckR p vars f k := by
  intro f
  induction f with
  | zero => intro k _ h; omega
  | succ f ih =>
    intro k hk hf
    rw [pcF, ckR]
    by_cases hlt : k < p.size
    · rw [if_pos hlt]
      have hes := extract_tail_size p k hk
      rcases idx_pair (p.extract k p.size).data.toList with hi | ⟨n, hi, hn⟩
      · have hN : nextP p k = (-1, -1) := by unfold nextP; rw [hi, if_pos (by decide)]
        rw [hN, hi, if_pos (by decide), if_pos (by decide)]
        unfold tellV
        simp only [missV_plain vars _ [] (show (⟨p.extract k p.size, false, k⟩ : PcS).isVar = false from rfl)]
        rfl
      · rw [show (p.extract k p.size).data.toList.length = (p.extract k p.size).size from rfl, hes] at hn
        by_cases hc : cutH 41 (p.extract (k + n + 2) p.size) = true
        · have hN : nextP p k = ((k : Int) + (n : Int), ((k + n + 2 + (cutN 41 (p.extract (k + n + 2) p.size)).size : Nat) : Int)) := by
            unfold nextP
            rw [hi, if_neg (by omega), Int.toNat_natCast, if_pos hc]
          rw [hN, hi, if_neg (by omega), Int.toNat_natCast, pre_int, if_pos hc]
          have hr := cut_room hc
          have he := extract_tail_size p (k + n + 2) (by omega)
          rw [he] at hr
          simp only
          rw [if_neg (by omega), if_neg (by omega), Int.toNat_natCast, show ((k : Int) + (n : Int)).toNat = k + n by omega, ← cutN_ext (by omega), ← ih _ (by omega) (by omega)]
          unfold tellV
          simp only [missV_pre]
          rw [missV]
          simp only [true_and]
          by_cases hm : (ownC (cutN 41 (p.extract (k + n + 2) p.size))).isNone = true ∧ (findV vars (cutN 41 (p.extract (k + n + 2) p.size))).isNone = true
          · rw [if_pos hm, if_pos hm]
          · rw [if_neg hm, if_neg hm]
        · have hN : nextP p k = ((k : Int) + (n : Int), -1) := by
            unfold nextP
            rw [hi, if_neg (by omega), Int.toNat_natCast, if_neg hc]
          rw [hN, hi, if_neg (by omega), Int.toNat_natCast, pre_int, if_neg hc]
          simp only
          rw [if_neg (by omega), if_pos (by decide), show ((k : Int) + (n : Int)).toNat = k + n by omega]
          unfold tellV
          have : missV vars (preP p k n) = none := by
            have := missV_pre vars p k n []
            rw [List.append_nil] at this
            exact this
          simp only [this]
          rw [if_neg (by omega), Int.toNat_natCast]
    · rw [if_neg hlt]
      have hn : nextP p k = (-1, -1) := nextP_none hk (fun j h1 h2 => by omega)
      rw [hn, if_pos (by decide)]; rfl
theorem chkV_ref {p : ByteArray} (vars : List SVar) (h : okP p = true) : chkV p vars = ckR p vars (p.size + 1) 0 := by
  rw [← ck_same p vars (p.size + 1) 0 (Nat.zero_le _) (by omega)]
  unfold chkV
  rw [if_neg (by rw [h]; decide)]
  rfl
end Go.Proofs.YtkgifenidmbdkaaGreatDoor

/- The reference's Names of chapter 19. -/
namespace Go.Proofs.YtkgifenidmbdkaaGreatDoor
open Go.RowKit

theorem nextP_range {p : ByteArray} {k : Nat} (hk : k ≤ p.size) : ((nextP p k).2 = -1 ∧ ((nextP p k).1 = -1 ∨ ∃ i : Nat, (nextP p k).1 = (i : Int) ∧ k ≤ i ∧ i + 2 ≤ p.size)) ∨ ∃ i q : Nat, nextP p k = ((i : Int), (q : Int)) ∧ k ≤ i ∧ i + 2 ≤ q ∧ q < p.size := by
  have hes := extract_tail_size p k hk
  unfold nextP
  rcases idx_pair (p.extract k p.size).data.toList with hi | ⟨n, hi, hn⟩
  · rw [hi, if_pos (by decide)]; exact .inl ⟨rfl, .inl rfl⟩
  · rw [show (p.extract k p.size).data.toList.length = (p.extract k p.size).size from rfl, hes] at hn
    rw [hi, if_neg (by omega), Int.toNat_natCast]
    by_cases hc : cutH 41 (p.extract (k + n + 2) p.size) = true
    · rw [if_pos hc]
      have hr := cut_room hc
      have he := extract_tail_size p (k + n + 2) (by omega)
      rw [he] at hr
      exact .inr ⟨k + n, _, by congr 1, by omega, Nat.le_add_right _ _, by omega⟩
    · rw [if_neg hc]
      exact .inl ⟨rfl, .inr ⟨k + n, by simp, by omega, by omega⟩⟩
set_option maxHeartbeats 6400000 in
set_option maxRecDepth 100000 in
theorem ref19_Names (p : ByteArray) (w : World) (hp : p.size ≤ 16777216) :
    Calls Tryz.prog 14 #[.string p] w fun e w' => ∃ a c, e = .returned (.slice a (namesR p (p.size + 1) 0).length c) ∧ RowSl w' a ((namesR p (p.size + 1) 0).map strV) ∧ Below w.heap.size w w' := by
  have hst0 : Below w.heap.size w (w.alloc (.cells #[] 9)) := (Below.refl _ _).alloc (Nat.le_refl _) _
  have hown0 := OwnS.lit0 w w.heap.size (Nat.le_refl _)
  go_enter Tryz.func14, Tryz.ntmps14
  go_wp2_with fail
  go_loopw [3, 4] (fun v x wr => ∃ (k f : Nat) (acc : List ByteArray), x = .int .i64 k ∧ k ≤ p.size ∧ acc.length ≤ k ∧ OwnS wr w.heap.size v acc ∧ acc ++ namesR p f k = namesR p (p.size + 1) 0 ∧ p.size - k < f ∧ Below w.heap.size w wr) (fun _ x _ => p.size - (intOf x).toNat)
  case atStart => exact ⟨0, p.size + 1, [], rfl, Nat.zero_le _, Nat.le_refl _, hown0, rfl, by omega, hst0⟩
  case round =>
    obtain ⟨k, f, acc, rfl, hkl, hal, hown, hacc, hf, hbr⟩ := hrel
    obtain ⟨f, rfl⟩ : ∃ f', f = f' + 1 := ⟨f - 1, by omega⟩
    rw [namesR] at hacc
    have hC := ref19_next p k wr hp hkl
    clear hown0 hst0
    rcases nextP_range hkl with ⟨h1, _⟩ | ⟨i, q, h1, h2, h3, h4⟩
    · rw [h1, if_pos (by decide), List.append_nil] at hacc
      rw [h1] at hC
      have HA := Lib.hid hacc
      have HC := Lib.hid hC
      clear hacc hC
      generalize (nextP p k).1 = n1 at *
      go_wp2_with fail
      refine HC.out.mono ?_
      rintro e w2 ⟨rfl, rfl⟩
      obtain ⟨a, c, rfl, _, _, hrow⟩ := hown.sl
      clear hown HC
      go_wp2_with fail
      go_ret
      rw [← HA.out]
      exact ⟨a, c, rfl, hrow, hbr⟩
    · rw [h1] at hacc hC
      simp only at hacc hC
      rw [if_neg (by omega), Int.toNat_natCast, Int.toNat_natCast] at hacc
      have HA := Lib.hid hacc
      have HC := Lib.hid hC
      clear hacc hC h1
      have z1 : IntKind.i64.wrap ((i : Int) + 2) = (i : Int) + 2 := IntWalk.i64_in _ (by omega)
      have z2 : IntKind.i64.wrap ((q : Int) + 1) = (q : Int) + 1 := IntWalk.i64_in _ (by omega)
      have y1 : (0 : Int) ≤ (i : Int) + 2 := by omega
      have y2 : (i : Int) + 2 ≤ (q : Int) := by omega
      have y3 : (q : Int) ≤ (p.size : Int) := by omega
      have y4 : ((i : Int) + 2).toNat = i + 2 := by omega
      have y5 : ¬ (q : Int) < 0 := by omega
      have hbl := heap_alloc_new wr (.cells #[.string (p.extract (i + 2) q)] 9)
      have hst : Below wr.heap.size wr (wr.alloc (.cells #[.string (p.extract (i + 2) q)] 9)) := (Below.refl _ _).alloc (Nat.le_refl _) _
      have hown4 := hown.below hst
      have hbr4 := Bt hbr hst
      have hszC := hbr4.size
      clear hown hst
      go_wp2_with fail
      refine HC.out.mono ?_
      rintro e w2 ⟨rfl, rfl⟩
      go_wp2_with (at_builtin; refine wpList_app_str rfl (.tmp 17) (.tmp 23) rfl w.heap.size _ _ rfl hown4 wr.heap.size 1 (p.extract (i + 2) q) rfl hbl (by omega) hszC ?_)
      intro v5 w5 hown5 hg5
      have hbr5 := hown4.under hbr4 (Nat.le_refl _) hg5
      clear hown4 hbr4 hg5 hbl HC
      go_wp2_with fail
      go_roundw
      case rel => exact ⟨q + 1, f, _, by go_num, by omega, by rw [List.length_append]; simp; omega, hown5, by rw [List.append_assoc]; exact HA.out, by omega, hbr5⟩
      case measure => simp [intOf]; omega
end Go.Proofs.YtkgifenidmbdkaaGreatDoor
