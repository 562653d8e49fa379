/- subst's matcher: step. -/
import Derived.Test.YtibhohpamnpkcaaGreatDoorRouteOrderM25
import Derived.Test.YtibhohpamnpkcaaGreatDoorRouteOrderM22
import Derived.Deep.DeepCutAuto
import Derived.Deep.RegionHeld
import Derived.Test.YtibhohpamnpkcaaGreatDoorRouteOrderM21
import Derived.Test.YtibhohpamnpkcaaGreatDoorRouteOrderM24
import Derived.Test.YtibhohpamnpkcaaGreatDoorRouteOrderM23

namespace Go.Proofs.YtibhohpamnpkcaaGreatDoor
open Go.RowKit

def StepPost (m : Nat) (R : Nat → Bool) (w : World) (e : Ending) (w' : World) : Prop := ∃ gn, e = .returned (.slice (some ⟨gn, 0, none⟩) (m + 1) (m + 1)) ∧ w'.rowIs gn 4 (m + 1) (boolsF R) ∧ w.heap.size ≤ gn ∧ Below w.heap.size w w'
theorem grown_fresh {w w1 w' : World} {gx : Nat} (hb : Below w.heap.size w w1) (hg : w1.grownBy w' (some gx)) (hx : w.heap.size ≤ gx) : Below w.heap.size w w' := hb.grown hg hb.size (fun j hj => by cases hj; exact hx)
theorem row_not_str {w : World} {g n j : Nat} {t : TypeId} {F : Nat → Bool} {s : ByteArray} (h : w.rowIs g t n (boolsF F)) (hc : w.cell? ⟨g, j, none⟩ = some (.string s)) : False := by
  obtain ⟨c, hh, hn, hf⟩ := h
  rw [cell_of_row w g j _ _ _ hh] at hc
  have hj : j < n := by
    have := (Array.getElem?_eq_some_iff.1 hc).1
    omega
  rw [hf j hj] at hc
  cases hc
theorem StrsV.grown {w w' : World} {u : Value} {l : List ByteArray} {g n : Nat} {t : TypeId} {F : Nat → Bool} (h : StrsV w u l) (hg : w.grownBy w' (some g)) (hr : w.rowIs g t n (boolsF F)) : StrsV w' u l := by
  obtain ⟨a, cap, e, hc, h⟩ := h
  refine ⟨a, cap, e, hc, fun i s hs => ?_⟩
  obtain ⟨b, off, e2, hlt, hcell⟩ := h i s hs
  have hne : b ≠ g := by
    rintro rfl
    exact row_not_str hr hcell
  exact ⟨b, off, e2, Nat.lt_of_lt_of_le hlt hg.size, (cell_grown hg (p := ⟨b, _, none⟩) hlt hne).trans hcell⟩
set_option maxHeartbeats 6400000 in
set_option maxRecDepth 100000 in
theorem sub_step (g gf c1 m cap vcap : Nat) (a av : Option Addr) (vars : List SVar) (cs : List Nat) (q : PcS) (fr : Nat → Bool) (fold : Bool) (w : World) (hU : Utf8Laid w) (hL : ClassLaid w) (hm : MatAt w g a m cap cs (.slice av vars.length vcap) fold) (hv : VarsSl w av vars) (hm2 : m ≤ 16777216) (hcap : m ≤ cap)
    (hf : w.rowIs gf 4 (m + 1) (boolsF fr)) (hcs : ∀ c ∈ cs, c ≤ 1114111) (hq : q.text.size ≤ 16777216) (hvl : vars.length ≤ 16777216) (hvs : ∀ v ∈ vars, v.2.length ≤ 16777216 ∧ ∀ s ∈ v.2, s.size ≤ 16777216) :
    Calls Tryz.prog 123 #[.pointer (some ⟨g, 0, none⟩), .agg #[.string q.text, .bool q.isVar, .int .i64 (q.place : Int)], .slice (some ⟨gf, 0, none⟩) (m + 1) c1] w (StepPost m (stepR fold cs vars q fr) w) := by
  obtain ⟨tx, iv, pl⟩ := q
  simp only at hq
  simp only
  have hst1 : Below w.heap.size w (w.alloc (.cells #[.string tx, .bool iv, .int .i64 (pl : Int)] 221)) := (Below.refl _ _).alloc (Nat.le_refl _) _
  have hrn := World.rowIs_made (w.alloc (.cells #[.string tx, .bool iv, .int .i64 (pl : Int)] 221)) (.bool false) (m + 1) 4
  rw [World.size_alloc] at hrn
  have hst2 := hst1.alloc (by simp) (.cells (madeCells #[.bool false] (m + 1)) 4)
  have hB1 : Below (w.alloc (.cells #[.string tx, .bool iv, .int .i64 (pl : Int)] 221)).heap.size (w.alloc (.cells #[.string tx, .bool iv, .int .i64 (pl : Int)] 221)) ((w.alloc (.cells #[.string tx, .bool iv, .int .i64 (pl : Int)] 221)).alloc (.cells (madeCells #[.bool false] (m + 1)) 4)) := (Below.refl _ _).alloc (Nat.le_refl _) _
  have hq0 := heap_alloc_new w (.cells #[.string tx, .bool iv, .int .i64 (pl : Int)] 221)
  have t0 := (hB1.cell (p := ⟨w.heap.size, 0, none⟩) (by simp)).trans (cell_of_row _ _ 0 _ _ _ hq0)
  have t1 := (hB1.cell (p := ⟨w.heap.size, 1, none⟩) (by simp)).trans (cell_of_row _ _ 1 _ _ _ hq0)
  rw [show (#[Value.string tx, .bool iv, .int .i64 (pl : Int)] : Array Value)[0]? = some (.string tx) from rfl] at t0
  rw [show (#[Value.string tx, .bool iv, .int .i64 (pl : Int)] : Array Value)[1]? = some (.bool iv) from rfl] at t1
  have hmk := make_bools m hm2
  have hm3 := hm.below hst2
  have hf3 := row_below hf hst2
  have hU3 := hU.below hst2
  have hL3 := hL.below hst2
  have hv3 := hv.below hst2
  have hfw := hf.lt
  have hsz := hrn.lt
  have HMM := Lib.hid hm
  have HFF := Lib.hid hf
  have HUU := Lib.hid hU
  clear hst1 hB1 hq0 hm hf hU hL hv
  go_enter Tryz.func123, Tryz.ntmps123
  cases iv with
  | false =>
    go_wp2_with fail
    have hR : ∀ j, stepR fold cs vars ⟨tx, false, pl⟩ fr j = (false || patR fold cs tx fr j) := fun j => by unfold stepR; simp
    have HR := Lib.hid hR
    clear hR
    refine (sub_pattern g gf (w.heap.size + 1) c1 (m + 1) m cap a tx cs _ fr (fun _ => false) fold _ hU3 hq hm3 hm2 hf3 hrn (by omega) hcs).mono ?_
    rintro e w4 ⟨rfl, hr4, hg4⟩
    have hb4 := grown_fresh hst2 hg4 (by omega)
    clear hst2 hg4 hm3 hf3 hU3 hL3 hv3 hrn t0 t1
    go_wp2_with fail
    go_ret
    exact ⟨w.heap.size + 1, rfl, hr4.congr fun j _ => by show Value.bool _ = Value.bool _; rw [HR.out], by omega, hb4⟩
  | true =>
    go_wp2_with fail
    refine (sub_own tx _ hL3).mono ?_
    rintro e w4 ⟨ho, hb4⟩
    rcases ho with ⟨ho, rfl⟩ | ⟨nm, am, sz, ho, hs1, hs2, rfl⟩
    · have hR : ∀ j, stepR fold cs vars ⟨tx, true, pl⟩ fr j = ((findV vars tx).getD []).any fun v => patR fold cs v fr j := fun j => by unfold stepR; rw [if_pos rfl, ho]
      have HR := Lib.hid hR
      have hal : Below w4.heap.size w4 (w4.alloc (.cells #[.string ⟨#[]⟩, .string ⟨#[]⟩, .int .i64 0] 261)) := (Below.refl _ _).alloc (Nat.le_refl _) _
      have hb5 := Bt hb4 hal
      have hm5 := hm3.below hb5
      have hv5 := hv3.below hb5
      have hr5 := row_below hrn hb5
      have t05 := (hb5.cell (p := ⟨w.heap.size, 0, none⟩) (by show w.heap.size < _; omega)).trans t0
      have hb05 := Bt hst2 hb5
      have hw5 : w.heap.size < (w4.alloc (.cells #[.string ⟨#[]⟩, .string ⟨#[]⟩, .int .i64 0] 261)).heap.size := by have := hb5.size; omega
      have hLs : ∀ s ∈ (findV vars tx).getD [], s.size ≤ 16777216 := by
        unfold findV
        cases hfv : vars.find? (fun v => decide (v.1 = tx)) with
        | none => intro s hs; simp at hs
        | some v => exact (hvs v (List.mem_of_find?_eq_some hfv)).2
      have hLl : ((findV vars tx).getD []).length ≤ 16777216 := by
        unfold findV
        cases hfv : vars.find? (fun v => decide (v.1 = tx)) with
        | none => simp
        | some v => exact (hvs v (List.mem_of_find?_eq_some hfv)).1
      have CV := Lib.hid (fun W h => sub_values' av vcap vars tx W h hvl)
      have HLS := Lib.hid hLs
      clear hR ho hal hb5 hst2 hm3 hf3 hU3 hL3 hv3 hrn t0 t1 hb4 hLs hvs
      generalize (findV vars tx).getD [] = l at *
      generalize (findV vars tx).isSome = bb at *
      go_upto_region 8 with (fail)
      generalize w4.alloc (.cells #[.string ⟨#[]⟩, .string ⟨#[]⟩, .int .i64 0] 261) = w5 at *
      have hgl5 := hm5.1
      have m1 := hm5.2.2.1
      clear hm5
      go_cut [10] (fun v wx => StrsV wx v l ∧ Below w5.heap.size w5 wx)
      case first =>
        have hd := (Below.refl w5.heap.size w5).drew
        have hS : ∀ W, Below w5.heap.size w5 W → W.cell? ⟨g, 1, none⟩ = some (.slice av vars.length vcap) ∧ W.cell? ⟨w.heap.size, 0, none⟩ = some (.string tx) ∧ Below w5.heap.size w5 W := fun W hb => ⟨(hb.cell (p := ⟨g, 1, none⟩) hgl5).trans m1, (hb.cell (p := ⟨w.heap.size, 0, none⟩) hw5).trans t05, hb⟩
        have HS := Lib.hid hS
        have HV := Lib.hid hv5
        clear hS hv5 hr5 HMM HFF HUU HLS HR hb05
        first
        | (go_region_held (fun W => W.cell? ⟨g, 1, none⟩ = some (.slice av vars.length vcap) ∧ W.cell? ⟨w.heap.size, 0, none⟩ = some (.string tx) ∧ Below w5.heap.size w5 W) (first | assumption | exact HS.out _ (by assumption))
            ((go_at_call 152; refine (CV.out _ (HV.out.below (by assumption))).mono ?_; rintro e w6 ⟨u, rfl, hsv, hk6⟩; have hk7 := Bt (by assumption) hk6; dsimp only)))
        | fail
        all_goals
          go_wp2_with fail
          go_meet
          exact ⟨hsv, by assumption⟩
      case rest =>
        obtain ⟨hsv, hbc⟩ := hcut
        have hrc := row_below hr5 hbc
        have hb0c := Bt hb05 hbc
        have hsv0 := hsv
        obtain ⟨pa, pcap, rfl, hpl, _⟩ := hsv0
        clear hv5 hr5 t05 hb05 hbc m1 CV hmk
        go_wp2_with fail
        go_loopw [50] (fun x wr => ∃ i : Nat, i ≤ l.length ∧ x = .int .i64 i ∧ wr.rowIs (w.heap.size + 1) 4 (m + 1) (boolsF fun j => (l.take i).any fun v => patR fold cs v fr j) ∧ StrsV wr (.slice pa l.length pcap) l ∧ Below w.heap.size w wr) (fun x _ => l.length - (intOf x).toNat)
        case atStart => exact ⟨0, Nat.zero_le _, rfl, hrc.congr fun j _ => by show Value.bool false = Value.bool _; simp, hsv, hb0c⟩
        case round =>
          obtain ⟨i, hil, rfl, hr, hs, hbr⟩ := hrel
          clear hrc hsv hb0c
          by_cases hlt : i < l.length
          · have hiI : (i : Int) < (l.length : Int) := by omega
            obtain ⟨s, hls⟩ : ∃ s, l[i]? = some s := ⟨_, List.getElem?_eq_getElem hlt⟩
            obtain ⟨pa', cap', e1, _, hcell⟩ := hs
            have hs2 : StrsV wr (.slice pa l.length pcap) l := ⟨pa', cap', e1, by assumption, hcell⟩
            cases e1
            obtain ⟨b, off, hpa, hbw, hce⟩ := hcell i s hls
            have hsz2 := HLS.out s (List.mem_of_getElem? hls)
            have htk : ∀ j, ((l.take (i + 1)).any fun v => patR fold cs v fr j) = (((l.take i).any fun v => patR fold cs v fr j) || patR fold cs s fr j) := fun j => by
              rw [List.take_add_one, hls, List.any_append]
              simp
            have hP := fun W h1 h2 h3 h4 => sub_pattern g gf (w.heap.size + 1) c1 (m + 1) m cap a s cs (.slice av vars.length vcap) fr (fun j => (l.take i).any fun v => patR fold cs v fr j) fold W h1 hsz2 h2 hm2 h3 h4 (by omega) hcs
            have HP := Lib.hid hP
            have HTK := Lib.hid htk
            have HS2 := Lib.hid hs2
            have HPA := Lib.hid hpa
            clear hP htk hls hcell hs2
            subst hpa
            go_wp2_with fail
            refine (HP.out _ (HUU.out.below hbr) (HMM.out.below hbr) (row_below HFF.out hbr) hr).mono ?_
            rintro e w7 ⟨rfl, hr7, hg7⟩
            have hb7 := grown_fresh hbr hg7 (by omega)
            have hs7 := HS2.out.grown hg7 hr
            clear hr hbr hg7 HP HS2
            go_wp2_with fail
            go_roundw
            case rel => exact ⟨i + 1, by omega, by go_num, hr7.congr fun j _ => congrArg Value.bool (HTK.out j).symm, hs7, hb7⟩
            case measure => simp [intOf]; omega
          · obtain rfl : i = l.length := by omega
            go_wp2_with fail
            go_ret
            exact ⟨w.heap.size + 1, rfl, hr.congr fun j _ => by
              show Value.bool ((l.take l.length).any fun v => patR fold cs v fr j) = Value.bool _
              rw [List.take_length, HR.out], by omega, hbr⟩
    · have hR : ∀ j, stepR fold cs vars ⟨tx, true, pl⟩ fr j = clsR fold cs am sz fr j := fun j => by unfold stepR; rw [if_pos rfl, ho]
      have HR := Lib.hid hR
      have hal : Below w4.heap.size w4 (w4.alloc (.cells #[.string nm, .string am, .int .i64 (sz : Int)] 261)) := (Below.refl _ _).alloc (Nat.le_refl _) _
      have hb5 := Bt hb4 hal
      have hm5 := hm3.below hb5
      have hf5 := row_below hf3 hb5
      have hb05 := Bt hst2 hb5
      have hle := hb05.size
      have hld := load_cls (heap_alloc_new w4 (.cells #[.string nm, .string am, .int .i64 (sz : Int)] 261))
      clear hR ho hal hb5 hst2 hm3 hf3 hU3 hL3 hv3 hrn t0 t1 hb4
      go_wp2_with fail
      refine (sub_class g gf c1 m cap sz a cs _ fr fold nm am _ hm5 hm2 hs1 hs2 hf5 hcs hcap).mono ?_
      rintro e w6 ⟨gn, rfl, hr6, hgn, hb6⟩
      have hb06 := Bt hb05 hb6
      clear hm5 hf5 hld hb6
      go_wp2_with fail
      go_ret
      exact ⟨gn, rfl, hr6.congr fun j _ => by show Value.bool _ = Value.bool _; rw [HR.out], by omega, hb06⟩
end Go.Proofs.YtibhohpamnpkcaaGreatDoor

/- Plain: patterns with points and stars. -/
namespace Go.Proofs.YtibhohpamnpkcaaGreatDoor

/-- The reader of a pattern with points and stars, behind some characters. -/
structure PSt where
  parts : List GPart
  place : Nat
  opened : Bool
  escaped : Bool
def setMany : List GPart → List GPart
  | [] => []
  | [p] => [⟨p.char, p.wild, true⟩]
  | p :: q :: r => p :: setMany (q :: r)
def pstep (s : PSt) (c : Nat) : Option PSt :=
  if s.escaped = true then some ⟨s.parts ++ [⟨c, false, false⟩], s.place + (putN c).length, true, false⟩
  else if c = 92 then some ⟨s.parts, s.place + (putN c).length, s.opened, true⟩
  else if c = 42 then (if s.opened = true then some ⟨setMany s.parts, s.place + (putN c).length, false, false⟩ else none)
  else some ⟨s.parts ++ [⟨c, decide (c = 46), false⟩], s.place + (putN c).length, true, false⟩
def prun (s : PSt) : List Nat → PSt × Option Nat
  | [] => (s, none)
  | c :: l => match pstep s c with
    | some t => prun t l
    | none => (s, some s.place)
def pinit : PSt := ⟨[], 0, false, false⟩
/-- What is wrong with a pattern with points and stars: the error's number, its place. -/
def chkS (p : ByteArray) (k : Nat × Nat) : Nat × Nat := if k.1 ≠ 0 then k else match (prun pinit (chrs p).1).2 with
  | some i => (11, i)
  | none => if (prun pinit (chrs p).1).1.escaped = true then (10, p.size) else (0, 0)
def okSim (p : ByteArray) : Bool := okP p && ((prun pinit (chrs p).1).2.isNone && !(prun pinit (chrs p).1).1.escaped)
def patS (p : ByteArray) : List GPart := (prun pinit (chrs p).1).1.parts
/-- Is a text in the language of a pattern with points and stars? -/
def simpleB (p s : ByteArray) : Bool := okSim p && ((chrs s).2.isNone && langB false (patS p) (chrs s).1)

theorem setMany_snoc (l : List GPart) (p : GPart) : setMany (l ++ [p]) = l ++ [⟨p.char, p.wild, true⟩] := by
  induction l with
  | nil => rfl
  | cons q l ih =>
    cases hx : l ++ [p] with
    | nil => simp at hx
    | cons r m =>
      rw [List.cons_append, hx]
      show q :: setMany (r :: m) = _
      rw [← hx, ih]; rfl
theorem setMany_len (l : List GPart) : (setMany l).length = l.length := by
  induction l with
  | nil => rfl
  | cons q l ih =>
    cases l with
    | nil => rfl
    | cons r m => show (setMany (r :: m)).length + 1 = _; rw [ih]; rfl

/-- The characters of a text's pattern. -/
def escG (c : Nat) : List Nat := if c = 46 ∨ c = 42 ∨ c = 92 then [92, c] else [c]
def escB (c : UInt8) : List UInt8 := if c.toNat = 46 ∨ c.toNat = 42 ∨ c.toNat = 92 then [92, c] else [c]
def quoteS (s : ByteArray) : ByteArray := ⟨(s.data.toList.flatMap escB).toArray⟩
theorem prun_esc (l : List Nat) : ∀ s : PSt, s.escaped = false → (prun s (l.flatMap escG)).2 = none ∧ (prun s (l.flatMap escG)).1.escaped = false ∧ (prun s (l.flatMap escG)).1.parts = s.parts ++ l.map fun c => ⟨c, false, false⟩ := by
  induction l with
  | nil => intro s hs; exact ⟨rfl, hs, by simp [prun]⟩
  | cons c l ih =>
    intro s hs
    rw [List.flatMap_cons]
    by_cases hc : c = 46 ∨ c = 42 ∨ c = 92
    · have e1 : escG c = [92, c] := by unfold escG; rw [if_pos hc]
      have e2 : pstep s 92 = some ⟨s.parts, s.place + (putN 92).length, s.opened, true⟩ := by unfold pstep; rw [if_neg (by simp [hs]), if_pos rfl]
      have e3 : ∀ t : PSt, t.escaped = true → pstep t c = some ⟨t.parts ++ [⟨c, false, false⟩], t.place + (putN c).length, true, false⟩ := fun t ht => by unfold pstep; rw [if_pos ht]
      rw [e1]
      show (prun s (92 :: c :: l.flatMap escG)).2 = none ∧ _
      have e4 : prun s (92 :: c :: l.flatMap escG) = prun ⟨s.parts ++ [⟨c, false, false⟩], s.place + (putN 92).length + (putN c).length, true, false⟩ (l.flatMap escG) := by
        rw [prun, e2]
        show prun _ (c :: _) = _
        rw [prun, e3 _ rfl]
      show (prun s (92 :: c :: l.flatMap escG)).2 = none ∧ (prun s (92 :: c :: l.flatMap escG)).1.escaped = false ∧ (prun s (92 :: c :: l.flatMap escG)).1.parts = _
      rw [e4]
      obtain ⟨h1, h2, h3⟩ := ih ⟨s.parts ++ [⟨c, false, false⟩], s.place + (putN 92).length + (putN c).length, true, false⟩ rfl
      exact ⟨h1, h2, by rw [h3]; simp⟩
    · have e1 : escG c = [c] := by unfold escG; rw [if_neg hc]
      have e2 : pstep s c = some ⟨s.parts ++ [⟨c, decide (c = 46), false⟩], s.place + (putN c).length, true, false⟩ := by
        unfold pstep; rw [if_neg (by simp [hs]), if_neg (by omega), if_neg (by omega)]
      rw [e1]
      have e4 : prun s (c :: l.flatMap escG) = prun ⟨s.parts ++ [⟨c, false, false⟩], s.place + (putN c).length, true, false⟩ (l.flatMap escG) := by
        rw [prun, e2, decide_eq_false (by omega)]
      show (prun s (c :: l.flatMap escG)).2 = none ∧ (prun s (c :: l.flatMap escG)).1.escaped = false ∧ (prun s (c :: l.flatMap escG)).1.parts = _
      rw [e4]
      obtain ⟨h1, h2, h3⟩ := ih ⟨s.parts ++ [⟨c, false, false⟩], s.place + (putN c).length, true, false⟩ rfl
      exact ⟨h1, h2, by rw [h3]; simp⟩

theorem flat_put (c : Nat) (hc : rightC c) : (putL c).flatMap escB = (escG c).flatMap putL := by
  have hlt := rightC_lt hc
  by_cases h : c < 128
  · have e : putL c = [UInt8.ofNat c] := by unfold putL; rw [put1 h]; rfl
    have e9 : putL 92 = [92] := rfl
    have hn : (UInt8.ofNat c).toNat = c := by rw [UInt8.toNat_ofNat']; exact Nat.mod_eq_of_lt (by omega)
    rw [e]
    unfold escG
    split
    · rename_i h1
      simp only [List.flatMap_cons, List.flatMap_nil, List.append_nil, escB, hn, if_pos h1, e, e9]
      rfl
    · rename_i h1
      simp only [List.flatMap_cons, List.flatMap_nil, List.append_nil, escB, hn, if_neg h1, e]
  · have e1 : escG c = [c] := by unfold escG; rw [if_neg (by omega)]
    rw [e1]
    have hall : ∀ b ∈ putL c, escB b = [b] := by
      intro b hb
      unfold putL at hb
      obtain ⟨x, hx, rfl⟩ := List.mem_map.1 hb
      have hx2 : 128 ≤ x ∧ x < 256 := by
        unfold putN at hx
        rw [if_neg h] at hx
        split at hx
        · simp at hx; omega
        · split at hx
          · simp at hx; omega
          · simp at hx; omega
      have hn : (UInt8.ofNat x).toNat = x := by rw [UInt8.toNat_ofNat']; exact Nat.mod_eq_of_lt (by omega)
      unfold escB
      rw [hn, if_neg (by omega)]
    have : ∀ l : List UInt8, (∀ b ∈ l, escB b = [b]) → l.flatMap escB = l := by
      intro l
      induction l with
      | nil => intro _; rfl
      | cons b l ih => intro h; rw [List.flatMap_cons, h b (by simp), ih fun x hx => h x (by simp [hx])]; rfl
    rw [this _ hall]
    simp
theorem quote_put (l : List Nat) (h : ∀ c ∈ l, rightC c) : (putAll l).flatMap escB = putAll (l.flatMap escG) := by
  induction l with
  | nil => rfl
  | cons c l ih =>
    rw [putAll_cons, List.flatMap_append, flat_put c (h c (by simp)), ih fun x hx => h x (by simp [hx]), List.flatMap_cons, putAll_app]
    rfl
theorem chrs_quote (s : ByteArray) (h : (chrs s).2 = none) : chrs (quoteS s) = ((chrs s).1.flatMap escG, none) := by
  have h1 := put_chrs s h
  have h2 := right_chrs s
  unfold quoteS
  rw [← h1, quote_put _ h2]
  refine chrs_put _ fun c hc => ?_
  obtain ⟨x, hx, hcx⟩ := List.mem_flatMap.1 hc
  unfold escG at hcx
  split at hcx
  · simp at hcx
    rcases hcx with rfl | rfl
    · exact .inl (by omega)
    · exact h2 _ hx
  · simp at hcx; subst hcx; exact h2 _ hx
theorem quote_size (s : ByteArray) : (quoteS s).size ≤ 2 * s.size := by
  have : ∀ l : List UInt8, (l.flatMap escB).length ≤ 2 * l.length := by
    intro l
    induction l with
    | nil => simp
    | cons b l ih =>
      rw [List.flatMap_cons, List.length_append, List.length_cons]
      have : (escB b).length ≤ 2 := by unfold escB; split <;> simp
      omega
  show (s.data.toList.flatMap escB).toArray.size ≤ 2 * s.data.toList.length
  simpa using this s.data.toList
theorem lang_lits (l u : List Nat) : Lang false (l.map fun c => ⟨c, false, false⟩) u ↔ u = l := by
  induction l generalizing u with
  | nil => simp [Lang]
  | cons c l ih =>
    simp only [List.map_cons]
    constructor
    · rintro ⟨a, b, rfl, h1, h2⟩
      obtain ⟨x, rfl, hx⟩ := (oneOk_one rfl).1 h1
      rw [(ih b).1 h2]
      have : c = x := by simpa [standsB] using hx
      rw [this]; rfl
    · rintro rfl
      exact ⟨[c], l, rfl, (oneOk_one rfl).2 ⟨c, rfl, by simp [standsB]⟩, (ih l).2 rfl⟩
theorem simpleB_bad (p s : ByteArray) {i : Nat} (h : (chrs s).2 = some i) : simpleB p s = false := by
  unfold simpleB; rw [h]; simp
theorem simple_quote (s t : ByteArray) (hs : s.size ≤ 400) (h : (chrs s).2 = none) : simpleB (quoteS s) t = decide (t = s) := by
  have h1 := chrs_quote s h
  obtain ⟨k1, k2, k3⟩ := prun_esc (chrs s).1 pinit rfl
  have hok : okSim (quoteS s) = true := by
    unfold okSim okP
    rw [h1]
    have := quote_size s
    simp only [k1, k2, decide_eq_true (show (quoteS s).size ≤ 1024 by omega)]
    rfl
  unfold simpleB
  rw [hok, Bool.true_and]
  have hp : patS (quoteS s) = (chrs s).1.map fun c => ⟨c, false, false⟩ := by
    unfold patS
    rw [h1, k3]
    rfl
  rw [hp, Bool.eq_iff_iff, Bool.and_eq_true, langB_iff, lang_lits, Option.isNone_iff_eq_none, decide_eq_true_eq]
  constructor
  · rintro ⟨h2, h3⟩
    have e1 := put_chrs s h
    have e2 := put_chrs t h2
    rw [h3, e1] at e2
    apply ByteArray.ext
    apply Array.ext'
    exact e2.symm
  · rintro rfl
    exact ⟨h, rfl⟩
end Go.Proofs.YtibhohpamnpkcaaGreatDoor

/- glob.Match, glob.Simple, glob.CheckSimple, glob.Lead, glob.Least. -/
namespace Go.Proofs.YtibhohpamnpkcaaGreatDoor
open Go.RowKit

theorem chrs_le {s : ByteArray} : ∀ c ∈ (chrs s).1, c ≤ 1114111 := fun c hc => by have := rightC_lt (right_chrs s c hc); omega
theorem patP_le {p : ByteArray} : ∀ q ∈ patP p, q.char ≤ 1114111 := by
  intro q hq
  unfold patP at hq
  obtain ⟨c, hc, rfl⟩ := List.mem_map.1 hq
  have := chrs_le c hc
  unfold partOf
  repeat' split
  all_goals (simp; try omega)
theorem prun_le (l : List Nat) (h : ∀ c ∈ l, c ≤ 1114111) : ∀ s : PSt, (∀ q ∈ s.parts, q.char ≤ 1114111) → ∀ q ∈ (prun s l).1.parts, q.char ≤ 1114111 := by
  induction l with
  | nil => intro s hs; exact hs
  | cons c l ih =>
    intro s hs
    have hc := h c (by simp)
    have hl : ∀ c ∈ l, c ≤ 1114111 := fun d hd => h d (by simp [hd])
    unfold prun
    have hm : ∀ k : List GPart, (∀ q ∈ k, q.char ≤ 1114111) → ∀ q ∈ setMany k, q.char ≤ 1114111 := by
      intro k
      induction k with
      | nil => intro hk q hq; cases hq
      | cons x k ihk =>
        intro hk q hq
        cases k with
        | nil =>
          have : q = ⟨x.char, x.wild, true⟩ := by simpa [setMany] using hq
          subst this
          exact hk x (by simp)
        | cons y r =>
          rcases List.mem_cons.1 hq with rfl | hq
          · exact hk _ (by simp)
          · exact ihk (fun z hz => hk z (by simp [hz])) q hq
    have ha : ∀ q ∈ s.parts ++ [⟨c, false, false⟩], GPart.char q ≤ 1114111 := fun q hq => by
      rcases List.mem_append.1 hq with hq | hq
      · exact hs q hq
      · simp at hq; subst hq; exact hc
    have hb : ∀ q ∈ s.parts ++ [⟨c, decide (c = 46), false⟩], GPart.char q ≤ 1114111 := fun q hq => by
      rcases List.mem_append.1 hq with hq | hq
      · exact hs q hq
      · simp at hq; subst hq; exact hc
    unfold pstep
    by_cases h1 : s.escaped = true
    · rw [if_pos h1]; exact ih hl _ ha
    · rw [if_neg h1]
      by_cases h2 : c = 92
      · rw [if_pos h2]; exact ih hl _ hs
      · rw [if_neg h2]
        by_cases h3 : c = 42
        · rw [if_pos h3]
          by_cases h4 : s.opened = true
          · rw [if_pos h4]; exact ih hl _ (hm _ hs)
          · rw [if_neg h4]; exact hs
        · rw [if_neg h3]; exact ih hl _ hb
theorem patS_le {p : ByteArray} : ∀ q ∈ patS p, q.char ≤ 1114111 := prun_le _ chrs_le pinit (fun q hq => by cases hq)
theorem prun_len (l : List Nat) : ∀ s : PSt, (prun s l).1.parts.length ≤ s.parts.length + l.length := by
  induction l with
  | nil => intro s; exact Nat.le_refl _
  | cons c l ih =>
    intro s
    unfold prun pstep
    by_cases h1 : s.escaped = true
    · rw [if_pos h1]; refine Nat.le_trans (ih _) ?_; first | (simp; done) | (simp; omega)
    · rw [if_neg h1]
      by_cases h2 : c = 92
      · rw [if_pos h2]; refine Nat.le_trans (ih _) ?_; first | (simp; done) | (simp; omega)
      · rw [if_neg h2]
        by_cases h3 : c = 42
        · rw [if_pos h3]
          by_cases h4 : s.opened = true
          · rw [if_pos h4]; refine Nat.le_trans (ih _) ?_; first | (simp [setMany_len]; done) | (simp [setMany_len]; omega)
          · rw [if_neg h4]; exact Nat.le_add_right _ _
        · rw [if_neg h3]; refine Nat.le_trans (ih _) ?_; first | (simp; done) | (simp; omega)
theorem patS_len (p : ByteArray) : (patS p).length ≤ p.size := by
  have h1 := prun_len (chrs p).1 pinit
  have h2 := chrs_len p
  have h3 : pinit.parts.length = 0 := rfl
  unfold patS; omega

theorem matchB_no {p s : ByteArray} {f : Bool} (h : okP p = false) : matchB p s f = false := by unfold matchB; rw [h]; rfl
theorem matchB_bad {p s : ByteArray} {f : Bool} {i : Nat} (h : (chrs s).2 = some i) : matchB p s f = false := by unfold matchB; rw [h]; simp
theorem matchB_run {p s : ByteArray} {f : Bool} (h : okP p = true) (h2 : (chrs s).2 = none) : matchB p s f = langB f (patP p) (chrs s).1 := by unfold matchB; rw [h, h2]; rfl
theorem simpleB_no {p s : ByteArray} (h : okSim p = false) : simpleB p s = false := by unfold simpleB; rw [h]; rfl
theorem simpleB_run {p s : ByteArray} (h : okSim p = true) (h2 : (chrs s).2 = none) : simpleB p s = langB false (patS p) (chrs s).1 := by unfold simpleB; rw [h, h2]; rfl

set_option maxHeartbeats 1600000 in
set_option maxRecDepth 100000 in
theorem glob_Match (p s : ByteArray) (f : Bool) (w : World) (hU : Utf8Laid w) (hp : p.size ≤ 16777216) (hs : s.size ≤ 16777216) :
    Calls Tryz.prog 122 #[.string p, .string s, .bool f] w fun e w' => e = .returned (.bool (matchB p s f)) ∧ Below w.heap.size w w' := by
  go_enter Tryz.func122, Tryz.ntmps122
  go_wp2_with fail
  refine (glob_plain p _ hU hp).mono ?_
  rintro e w1 ⟨hb1, h⟩
  have hU1 := hU.below hb1
  rcases h with ⟨hok, v, rfl, hown⟩ | ⟨hok, u, rfl⟩
  · have HOK := Lib.hid hok
    clear hok
    have hpl := patP_len p
    go_wp2_with ((with_reducible refine wpList_bytes_sl rfl 9 74 5 _ rfl s rfl Tryz.underlying9 Tryz.underlying74 Tryz.underlying5 (by omega) ?_); intro v1 w2 hv1 hb2)
    have hb12 := Bt hb1 hb2
    refine (utf_Chars v1 s _ (hU1.below hb2) hs hv1).mono ?_
    rintro e w3 ⟨hb3, h⟩
    have hb13 := Bt hb12 hb3
    have hown3 := (hown.below hb2).below hb3
    rcases h with ⟨hn, v3, rfl, hownc⟩ | ⟨i, hi, v3, rfl, hv3⟩
    · obtain ⟨a, c, rfl, hc1, hc2, hsl⟩ := chars_sl hownc rfl
      obtain ⟨a4, c4, e4⟩ := row_len hown3
      subst e4
      obtain ⟨_, hc3, hc4, hpsl⟩ := hown3.sl
      have hlen := chrs_len s
      have HV := Lib.hid (matchB_run (f := f) HOK.out hn)
      have hrun := fun W h1 h2 => glob_run a4 a (patP p).length c4 (chrs s).1.length c (patP p) (chrs s).1 f W rfl rfl (by omega) (by omega) h1 h2 patP_le chrs_le
      have HRUN := Lib.hid hrun
      generalize (chrs s).1 = cs at *
      generalize patP p = ps at *
      clear hn hown3 hownc hown hb1 hb2 hb3 hb12 hrun
      go_wp2_with fail
      refine (HRUN.out _ hpsl hsl).mono ?_
      rintro e w4 ⟨rfl, hb4⟩
      have hb5 := Bt hb13 hb4
      go_wp2_with fail
      go_ret
      exact ⟨ret_bool HV.out.symm, hb5⟩
    · obtain ⟨q, rfl⟩ := hv3.ne_nil
      have HV := Lib.hid (matchB_bad (p := p) (f := f) hi)
      clear hi
      go_wp2_with fail
      go_ret
      exact ⟨ret_bool HV.out.symm, hb13⟩
  · have HV := Lib.hid (matchB_no (s := s) (f := f) hok)
    clear hok
    go_wp2_with ((with_reducible refine wpList_bytes_sl rfl 9 74 5 _ rfl s rfl Tryz.underlying9 Tryz.underlying74 Tryz.underlying5 (by omega) ?_); intro v1 w2 hv1 hb2)
    have hb12 := Bt hb1 hb2
    refine (utf_Chars v1 s _ (hU1.below hb2) hs hv1).mono ?_
    rintro e w3 ⟨hb3, h⟩
    have hb13 := Bt hb12 hb3
    rcases h with ⟨hn, v3, rfl, hownc⟩ | ⟨i, hi, v3, rfl, hv3⟩
    · clear hn hownc
      go_wp2_with fail
      go_ret
      exact ⟨ret_bool HV.out.symm, hb13⟩
    · clear hi hv3
      go_wp2_with fail
      go_ret
      exact ⟨ret_bool HV.out.symm, hb13⟩

def CheckSPost (p : ByteArray) (w : World) (e : Ending) (w' : World) : Prop := Below w.heap.size w w' ∧ ∃ v, e = .returned v ∧ IsErr w' v (chkS p (chkP p)).1 (chkS p (chkP p)).2
theorem byteAt_idxG {s : ByteArray} {i : Nat} (h : i < s.size) : s[i] = byteAt s i := by simp [byteAt, List.getD, h]; rfl
theorem ret_sub {s t : ByteArray} (h : t = s) : Ending.returned (.string s) = .returned (.string t) := by rw [h]
theorem leadS_end {p : ByteArray} (h : ∀ j, j < p.size → signB (byteAt p j) = false) : leadS p = p := by
  have : leadN p = p.size := leadN_is (Nat.le_refl _) h (fun h => absurd h (Nat.lt_irrefl _))
  unfold leadS
  rw [this]
  apply ByteArray.ext
  apply Array.ext'
  rw [Lib.extract_data]
  have hl : p.data.toList.length = p.size := rfl
  rw [List.drop_zero, Nat.sub_zero, ← hl, List.take_length]
theorem sign_eq (c : UInt8) : signB c = (((c.toNat : Int) == 42) || ((c.toNat : Int) == 63)) := by
  unfold signB
  rw [Bool.eq_iff_iff]
  simp
  omega

end Go.Proofs.YtibhohpamnpkcaaGreatDoor

/- subst.Match. -/
namespace Go.Proofs.YtibhohpamnpkcaaGreatDoor
open Go.RowKit

theorem plain_only {p : ByteArray} {q : PcS} (h : (pcs p).1 = [q]) (hv : q.isVar = false) (hb : (pcs p).2 < 0) : q.text = p := by
  unfold pcs at h hb
  rw [pcF] at h hb
  by_cases h0 : 0 < p.size
  · rw [if_pos h0] at h hb
    have hx : p.extract 0 p.size = p := cut_full p _ rfl
    rw [hx] at h hb
    rcases idx_pair p.data.toList with hi | ⟨n, hi, hn⟩
    · rw [hi, if_pos (by decide)] at h
      injection h with h _
      rw [← h]
    · rw [hi, if_neg (by omega), Int.toNat_natCast, pre_int] at h hb
      by_cases hc : cutH 41 (p.extract (0 + n + 2) p.size) = true
      · rw [if_pos hc] at h
        exfalso
        by_cases hp : 0 < n
        · rw [show preP p 0 n = [⟨p.extract 0 (0 + n), false, 0⟩] by unfold preP; rw [if_pos hp]] at h
          simp at h
        · rw [show preP p 0 n = [] by unfold preP; rw [if_neg hp]] at h
          simp at h
          rw [← h.1] at hv
          cases hv
      · rw [if_neg hc] at hb
        exfalso
        have hb' : ((0 + n : Nat) : Int) < 0 := hb
        omega
  · rw [if_neg h0] at h
    cases h
theorem patR_start {fold : Bool} {cs : List Nat} {p : ByteArray} : patR fold cs p (fun i => decide (i = 0)) cs.length = (okP p && langB fold (patP p) cs) := by
  unfold patR
  congr 1
  rw [Bool.eq_iff_iff, List.any_eq_true]
  constructor
  · rintro ⟨i, _, h⟩
    rw [Bool.and_eq_true, decide_eq_true_eq] at h
    obtain ⟨rfl, h⟩ := h
    rwa [seg_all] at h
  · intro h
    exact ⟨0, List.mem_range.2 (by omega), by rw [seg_all]; simpa using h⟩
theorem subM_bad {p : ByteArray} {vars : List SVar} {s : ByteArray} {fold : Bool} {i : Nat} (h : (chrs s).2 = some i) : subM p vars s fold = false := by unfold subM; rw [h]; simp
theorem subM_no {p : ByteArray} {vars : List SVar} {s : ByteArray} {fold : Bool} (h : okV p vars = false) : subM p vars s fold = false := by unfold subM; rw [h]; simp
theorem subM_run {p : ByteArray} {vars : List SVar} {s : ByteArray} {fold : Bool} (h : (chrs s).2 = none) (h2 : okV p vars = true) : subM p vars s fold = runR fold (chrs s).1 vars (pcs p).1 (fun i => decide (i = 0)) (chrs s).1.length := by unfold subM; rw [h, h2]; rfl
theorem okV_parts {p : ByteArray} {vars : List SVar} (h : okV p vars = true) : okP p = true ∧ (pcs p).2 < 0 := by
  unfold okV at h
  rw [Bool.and_eq_true, Bool.and_eq_true] at h
  exact ⟨h.1, by simpa using h.2.2⟩
theorem subM_plain {p : ByteArray} {vars : List SVar} {s : ByteArray} {fold : Bool} {q : PcS} (h : (chrs s).2 = none) (h2 : okV p vars = true) (hq : (pcs p).1 = [q]) (hv : q.isVar = false) : subM p vars s fold = matchB p s fold := by
  rw [subM_run h h2, hq]
  have ht := plain_only hq hv (okV_parts h2).2
  show stepR fold (chrs s).1 vars q (fun i => decide (i = 0)) (chrs s).1.length = _
  unfold stepR
  rw [if_neg (by rw [hv]; decide), ht, patR_start]
  unfold matchB
  rw [h]; rfl
end Go.Proofs.YtibhohpamnpkcaaGreatDoor
