/- glob.run: are characters in the language of parts? -/
import Derived.Test.YtipenfeplampeaaDoorSubstVarsM9
import Derived.Test.YtipenfeplampeaaDoorSubstVarsM4
import Derived.Test.YtipenfeplampeaaDoorSubstVarsM8

namespace Go.Proofs.YtipenfeplampeaaDoor
open Go.RowKit

theorem info_bool : (Tryd.prog.info? 4).map (fun i => (i.zero, i.size, i.bytes)) = some (some (.bool false), 1, 1) := by kernel_rfl
theorem make_bools (n : Nat) (hn : n ≤ 16777216) (W : World) : (Instr.makeSlice 64 (.int .i64 ((n : Int) + 1)) (.int .i64 ((n : Int) + 1))).run Tryd.prog W = .ok (.slice (some ⟨W.heap.size, 0, none⟩) (n + 1) (n + 1)) (W.alloc (.cells (madeCells #[.bool false] (n + 1)) 4)) := by
  obtain ⟨i, hi, hz, hsize, hby⟩ := info_parts info_bool
  exact run_make_row 64 4 i (.bool false) Tryd.underlying64 hi hz hsize rfl .i64 .i64 (n + 1) (by rw [hby]; omega) (by omega) W

theorem take_one' {cs : List Nat} {k c : Nat} (h : cs[k]? = some c) : cs.take k ++ [c] = cs.take (k + 1) := by
  obtain ⟨hi, rfl⟩ := List.getElem?_eq_some_iff.1 h
  rw [List.take_succ_eq_append_getElem hi]
theorem Bg {a w w' : World} {g : Nat} (h : a.grownBy w (some g)) (hb : Below w.heap.size w w') : a.grownBy w' (some g) := grown_trans h (below_grownBy hb _)
theorem row_below {w w' : World} {b n : Nat} {t : TypeId} {f : Nat → Value} (h : w.rowIs b t n f) (hb : Below w.heap.size w w') : w'.rowIs b t n f := h.of_block (hb.block b h.lt)
theorem set_many {w : World} {g n i : Nat} {t : TypeId} {f : Bool} {ps : List GPart} {u : List Nat} {c j : Nat} (h : w.rowIs g t n (fun m => if m = j then .bool true else boolsF (stepTo f ps u c i) m)) (e : ∀ m, stepTo f ps u c (i + 1) m = if m = j then true else stepTo f ps u c i m) :
    w.rowIs g t n (boolsF (stepTo f ps u c (i + 1))) := by
  refine h.congr fun m _ => ?_
  show _ = Value.bool _
  rw [e m]
  split <;> rfl

theorem row_start (w : World) (n : Nat) : (w.alloc (.cells ((madeCells #[.bool false] (n + 1)).setIfInBounds 0 (.bool true)) 4)).rowIs w.heap.size 4 (n + 1) (boolsF startF) := by
  have hs : ((madeCells #[Value.bool false] (n + 1)).setIfInBounds 0 (.bool true)).size = n + 1 := by simp [size_madeCells]
  have h := World.rowIs_alloc w ((madeCells #[.bool false] (n + 1)).setIfInBounds 0 (.bool true)) 4 (boolsF startF) (fun i hi => by
    rw [hs] at hi
    rw [Array.getElem?_setIfInBounds]
    unfold boolsF startF
    by_cases h0 : 0 = i
    · subst h0; simp [size_madeCells]
    · rw [if_neg h0, decide_eq_false (fun e => h0 e.symm)]
      simp [madeCells, hi, Nat.mod_one])
  rw [hs] at h
  exact h

set_option maxHeartbeats 6400000 in
set_option maxRecDepth 100000 in
theorem glob_run (a b : Option Addr) (n cap m cap2 : Nat) (ps : List GPart) (cs : List Nat) (f : Bool) (w : World) (hn : ps.length = n) (hm : cs.length = m) (hn2 : n ≤ 16777216) (hm2 : m ≤ 16777216) (hsl : PartsSl w a ps) (hcl : CharsSl w b cs)
    (hps : ∀ p ∈ ps, p.char ≤ 1114111) (hcs : ∀ c ∈ cs, c ≤ 1114111) :
    Calls Tryd.prog 48 #[.slice a n cap, .slice b m cap2, .bool f] w fun e w' => e = .returned (.bool (langB f ps cs)) ∧ Below w.heap.size w w' := by
  have hmk := make_bools n hn2
  have HMK := Lib.hid hmk
  have HN := Lib.hid hn
  have HM := Lib.hid hm
  have HPS := Lib.hid hps
  have HCS := Lib.hid hcs
  clear hn hm hps hcs
  go_enter Tryd.func48, Tryd.ntmps48
  have hfz0 := (World.rowIs_made w (.bool false) (n + 1) 4).frozen 0
  have hc0 := (World.rowIs_made w (.bool false) (n + 1) 4).cell (i := 0) (by omega)
  have hrow0 := row_start w n
  have HB0 := Lib.hid ((Below.refl w.heap.size w).alloc (Nat.le_refl _) (.cells ((madeCells #[.bool false] (n + 1)).setIfInBounds 0 (.bool true)) 4))
  have hsl0 := hsl.below HB0.out
  go_wp2_with fail
  refine (glob_skip a n cap ps w.heap.size (n + 1) startF _ HN.out hn2 hsl0 hrow0).mono ?_
  rintro e w2 ⟨rfl, hr2, hg2⟩
  have hb2 : Below w.heap.size w w2 := HB0.out.grown hg2 HB0.out.size (fun j hj => by cases hj; exact Nat.le_refl _)
  have hr2' : w2.rowIs w.heap.size 4 (n + 1) (boolsF (rB f ps [])) := hr2.congr fun j hj => by
    show Value.bool _ = Value.bool _
    rw [skip_start f ps j (by rw [HN.out]; omega)]
  clear hr2 hg2 hsl0 HB0 hrow0 hc0 hfz0
  go_wp2_with fail
  go_loopw [7, 24] (fun v x wr => ∃ k g : Nat, k ≤ m ∧ x = .int .i64 k ∧ v = .slice (some ⟨g, 0, none⟩) (n + 1) (n + 1) ∧ wr.rowIs g 4 (n + 1) (boolsF (rB f ps (cs.take k))) ∧ w.heap.size ≤ g ∧ Below w.heap.size w wr) (fun _ x _ => m - (intOf x).toNat)
  case atStart => exact ⟨0, w.heap.size, Nat.zero_le _, rfl, rfl, hr2', Nat.le_refl _, hb2⟩
  case round =>
    obtain ⟨k, g, hkm, rfl, rfl, hr, hgw, hbr⟩ := hrel
    clear hr2' hb2
    by_cases hlt : k < m
    · obtain ⟨d, hd⟩ : ∃ d, cs[k]? = some d := ⟨_, List.getElem?_eq_getElem (by rw [HM.out]; exact hlt)⟩
      have hdm : d ≤ 1114111 := HCS.out d (List.mem_of_getElem? hd)
      obtain ⟨bb, rfl, hbw, hcell⟩ := (hcl.below hbr) k d hd
      have htk := take_one' hd
      generalize cs.take k = u at *
      have HTK := Lib.hid htk
      clear htk hd
      have hrn := World.rowIs_made wr (.bool false) (n + 1) 4
      have hra := hr.alloc (.cells (madeCells #[.bool false] (n + 1)) 4)
      have hbr2 := hbr.alloc hbr.size (.cells (madeCells #[.bool false] (n + 1)) 4)
      have hgl := hr.lt
      go_wp2_with fail
      generalize hw3 : wr.alloc (.cells (madeCells #[.bool false] (n + 1)) 4) = w3 at *
      generalize hgn : wr.heap.size = gn at *
      have hgg : g ≠ gn := by omega
      have hsz3 : gn < w3.heap.size := hrn.lt
      clear hw3 hgn hcell hr hbr hmk
      go_loopw [33] (fun x wi => ∃ i : Nat, i ≤ n ∧ x = .int .i64 i ∧ wi.rowIs gn 4 (n + 1) (boolsF (stepTo f ps u d i)) ∧ w3.grownBy wi (some gn)) (fun x _ => n - (intOf x).toNat)
      case atStart => exact ⟨0, Nat.zero_le _, rfl, hrn.congr fun j _ => by
        show _ = Value.bool _
        rw [stepTo_zero], grown_refl _ _⟩
      case round =>
        obtain ⟨i, hin, rfl, hri, hgi⟩ := hrel
        have hgi2 := hgi.size
        by_cases hlti : i < n
        · obtain ⟨p, hp⟩ : ∃ p, ps[i]? = some p := ⟨_, List.getElem?_eq_getElem (by rw [HN.out]; exact hlti)⟩
          have hpm := HPS.out p (List.mem_of_getElem? hp)
          obtain ⟨b0, rfl, hb0, h1, h2, h3⟩ := ((hsl.below hbr2).grown hgi ((hsl.below hbr2).ne (f := fun _ => false) hrn)) i p hp
          have hrg := rowIs_far hra hgi (by simp; exact hgg)
          have cg := hrg.cell (i := i) (by omega)
          have hglt := hrg.lt
          have hgnlt := hri.lt
          have e0 : boolsF (rB f ps u) i = .bool (rB f ps u i) := rfl
          rw [e0] at cg
          have hno := fun h => step_none (f := f) (u := u) (c := d) hp h
          have hmany := fun h1 h2 h3 => step_many (f := f) (u := u) (c := d) hp h1 h2 h3
          have hone := fun h1 h2 h3 => step_one (f := f) (u := u) (c := d) hp h1 h2 h3
          obtain ⟨ch, wild, many⟩ := p
          have HNO := Lib.hid hno
          have HMANY := Lib.hid hmany
          have HONE := Lib.hid hone
          simp only at h1 h2 h3 hpm
          clear hno hmany hone hp e0
          by_cases hy : rB f ps u i = true
          · have HY := Lib.hid hy
            rw [hy] at cg
            clear hy
            go_wp2_with fail
            refine (glob_stands ch d wild many f hpm hdm _).mono ?_
            rintro e w5 ⟨rfl, hb5⟩
            have hr5 := row_below (hri.alloc (.cells #[.int .i64 (ch : Int), .bool wild, .bool many] 135)) hb5
            have hg5 := Bg (only_alloc hgi (.cells #[.int .i64 (ch : Int), .bool wild, .bool many] 135)) hb5
            have hq : w5.cell? ⟨wr.heap.size, 2, none⟩ = some (.bool many) := (hb5.cell (p := ⟨wr.heap.size, 2, none⟩) (by simp)).trans (by simp)
            have hfz := fun j => hr5.frozen j
            have hset := fun j => hr5.set j (.bool true)
            have hgs := fun j => only_setCell hg5 (p := ⟨gn, j, none⟩) (.inl rfl) (.bool true)
            have hci := hr5.cell (i := i) (by omega)
            have hcj := hr5.cell (i := i + 1) (by omega)
            have hf1 := hfz i
            have hf2 := hfz (i + 1)
            have HSET := Lib.hid hset
            have HGS := Lib.hid hgs
            clear hset hgs hb5 hfz
            by_cases hst : standsB ⟨ch, wild, many⟩ d f = true
            · rw [hst]
              have HST := Lib.hid hst
              clear hst
              cases many with
              | true =>
                clear hr5 hg5
                go_wp2_with fail
                go_roundw
                case rel => exact ⟨i + 1, by omega, by go_num, set_many (HSET.out i) (HMANY.out HY.out HST.out (by first | trivial | rfl)), HGS.out i⟩
                case measure => simp [intOf]; omega
              | false =>
                clear hr5 hg5
                go_wp2_with fail
                go_roundw
                case rel => exact ⟨i + 1, by omega, by go_num, set_many (HSET.out (i + 1)) (HONE.out HY.out HST.out (by first | trivial | rfl)), HGS.out (i + 1)⟩
                case measure => simp [intOf]; omega
            · have hst : standsB ⟨ch, wild, many⟩ d f = false := by simpa using hst
              rw [hst]
              have HST := Lib.hid hst
              clear hst hci hcj
              go_wp2_with fail
              go_roundw
              case rel => exact ⟨i + 1, by omega, by go_num, hr5.congr fun j _ => by
                show Value.bool _ = Value.bool _
                rw [HNO.out (.inr HST.out)], hg5⟩
              case measure => simp [intOf]; omega
          · have hy : rB f ps u i = false := by simpa using hy
            have HY := Lib.hid hy
            rw [hy] at cg
            clear hy
            have hal := hri.alloc (.cells #[.int .i64 (ch : Int), .bool wild, .bool many] 135)
            have hga := only_alloc hgi (.cells #[.int .i64 (ch : Int), .bool wild, .bool many] 135)
            go_wp2_with fail
            go_roundw
            case rel => exact ⟨i + 1, by omega, by go_num, hal.congr fun j _ => by
              show Value.bool _ = Value.bool _
              rw [HNO.out (.inl HY.out)], hga⟩
            case measure => simp [intOf]; omega
        · obtain rfl : i = n := by omega
          have hfin : ∀ j, j ≤ i → skipF ps (stepTo f ps u d i) j = rB f ps (u ++ [d]) j := fun j hj => by
            have h1 := skip_step f ps u d j (by rw [HN.out]; exact hj)
            rw [HN.out] at h1
            exact h1
          have HFIN := Lib.hid hfin
          have hsli := (hsl.below hbr2).grown hgi ((hsl.below hbr2).ne (f := fun _ => false) hrn)
          have hbi : Below w.heap.size w wr := hbr2.grown hgi hbr2.size (fun j hj => by cases hj; omega)
          clear hfin
          go_wp2_with fail
          refine (glob_skip a i cap ps gn (i + 1) _ _ HN.out hn2 hsli hri).mono ?_
          rintro e w6 ⟨rfl, hr6, hg6⟩
          have hb6 : Below w.heap.size w w6 := hbi.grown hg6 hbi.size (fun j hj => by cases hj; omega)
          have hr7 : w6.rowIs gn 4 (i + 1) (boolsF (rB f ps (cs.take (k + 1)))) := hr6.congr fun j hj => by
            show Value.bool _ = Value.bool _
            rw [HFIN.out j (by omega), HTK.out]
          clear hr6 hg6 hbi hri hgi hra hrn hbr2
          go_wp2_with fail
          go_roundw
          case rel => exact ⟨k + 1, gn, by omega, by go_num, rfl, hr7, by omega, hb6⟩
          case measure => simp [intOf]; omega
    · obtain rfl : k = m := by omega
      have hc := hr.cell (i := n) (by omega)
      have hv : boolsF (rB f ps (cs.take k)) n = .bool (langB f ps cs) := by
        show Value.bool _ = _
        rw [← HM.out, List.take_length, ← HN.out, rB_all]
      rw [hv] at hc
      clear hv hmk
      go_wp2_with fail
      go_ret
      exact ⟨rfl, hbr⟩
end Go.Proofs.YtipenfeplampeaaDoor

/- Plain: patterns with points and stars. -/
namespace Go.Proofs.YtipenfeplampeaaDoor

/-- The reader of a pattern with points and stars, behind some characters. -/
structure PSt where
  parts : List GPart
  place : Nat
  opened : Bool
  escaped : Bool
def setMany : List GPart → List GPart
  | [] => []
  | [p] => [⟨p.char, p.wild, true⟩]
  | p :: q :: r => p :: setMany (q :: r)
def pstep (s : PSt) (c : Nat) : Option PSt :=
  if s.escaped = true then some ⟨s.parts ++ [⟨c, false, false⟩], s.place + (putN c).length, true, false⟩
  else if c = 92 then some ⟨s.parts, s.place + (putN c).length, s.opened, true⟩
  else if c = 42 then (if s.opened = true then some ⟨setMany s.parts, s.place + (putN c).length, false, false⟩ else none)
  else some ⟨s.parts ++ [⟨c, decide (c = 46), false⟩], s.place + (putN c).length, true, false⟩
def prun (s : PSt) : List Nat → PSt × Option Nat
  | [] => (s, none)
  | c :: l => match pstep s c with
    | some t => prun t l
    | none => (s, some s.place)
def pinit : PSt := ⟨[], 0, false, false⟩
/-- What is wrong with a pattern with points and stars: the error's number, its place. -/
def chkS (p : ByteArray) (k : Nat × Nat) : Nat × Nat := if k.1 ≠ 0 then k else match (prun pinit (chrs p).1).2 with
  | some i => (11, i)
  | none => if (prun pinit (chrs p).1).1.escaped = true then (10, p.size) else (0, 0)
def okSim (p : ByteArray) : Bool := okP p && ((prun pinit (chrs p).1).2.isNone && !(prun pinit (chrs p).1).1.escaped)
def patS (p : ByteArray) : List GPart := (prun pinit (chrs p).1).1.parts
/-- Is a text in the language of a pattern with points and stars? -/
def simpleB (p s : ByteArray) : Bool := okSim p && ((chrs s).2.isNone && langB false (patS p) (chrs s).1)

theorem setMany_snoc (l : List GPart) (p : GPart) : setMany (l ++ [p]) = l ++ [⟨p.char, p.wild, true⟩] := by
  induction l with
  | nil => rfl
  | cons q l ih =>
    cases hx : l ++ [p] with
    | nil => simp at hx
    | cons r m =>
      rw [List.cons_append, hx]
      show q :: setMany (r :: m) = _
      rw [← hx, ih]; rfl
theorem setMany_len (l : List GPart) : (setMany l).length = l.length := by
  induction l with
  | nil => rfl
  | cons q l ih =>
    cases l with
    | nil => rfl
    | cons r m => show (setMany (r :: m)).length + 1 = _; rw [ih]; rfl

/-- The characters of a text's pattern. -/
def escG (c : Nat) : List Nat := if c = 46 ∨ c = 42 ∨ c = 92 then [92, c] else [c]
def escB (c : UInt8) : List UInt8 := if c.toNat = 46 ∨ c.toNat = 42 ∨ c.toNat = 92 then [92, c] else [c]
def quoteS (s : ByteArray) : ByteArray := ⟨(s.data.toList.flatMap escB).toArray⟩
theorem prun_esc (l : List Nat) : ∀ s : PSt, s.escaped = false → (prun s (l.flatMap escG)).2 = none ∧ (prun s (l.flatMap escG)).1.escaped = false ∧ (prun s (l.flatMap escG)).1.parts = s.parts ++ l.map fun c => ⟨c, false, false⟩ := by
  induction l with
  | nil => intro s hs; exact ⟨rfl, hs, by simp [prun]⟩
  | cons c l ih =>
    intro s hs
    rw [List.flatMap_cons]
    by_cases hc : c = 46 ∨ c = 42 ∨ c = 92
    · have e1 : escG c = [92, c] := by unfold escG; rw [if_pos hc]
      have e2 : pstep s 92 = some ⟨s.parts, s.place + (putN 92).length, s.opened, true⟩ := by unfold pstep; rw [if_neg (by simp [hs]), if_pos rfl]
      have e3 : ∀ t : PSt, t.escaped = true → pstep t c = some ⟨t.parts ++ [⟨c, false, false⟩], t.place + (putN c).length, true, false⟩ := fun t ht => by unfold pstep; rw [if_pos ht]
      rw [e1]
      show (prun s (92 :: c :: l.flatMap escG)).2 = none ∧ _
      have e4 : prun s (92 :: c :: l.flatMap escG) = prun ⟨s.parts ++ [⟨c, false, false⟩], s.place + (putN 92).length + (putN c).length, true, false⟩ (l.flatMap escG) := by
        rw [prun, e2]
        show prun _ (c :: _) = _
        rw [prun, e3 _ rfl]
      show (prun s (92 :: c :: l.flatMap escG)).2 = none ∧ (prun s (92 :: c :: l.flatMap escG)).1.escaped = false ∧ (prun s (92 :: c :: l.flatMap escG)).1.parts = _
      rw [e4]
      obtain ⟨h1, h2, h3⟩ := ih ⟨s.parts ++ [⟨c, false, false⟩], s.place + (putN 92).length + (putN c).length, true, false⟩ rfl
      exact ⟨h1, h2, by rw [h3]; simp⟩
    · have e1 : escG c = [c] := by unfold escG; rw [if_neg hc]
      have e2 : pstep s c = some ⟨s.parts ++ [⟨c, decide (c = 46), false⟩], s.place + (putN c).length, true, false⟩ := by
        unfold pstep; rw [if_neg (by simp [hs]), if_neg (by omega), if_neg (by omega)]
      rw [e1]
      have e4 : prun s (c :: l.flatMap escG) = prun ⟨s.parts ++ [⟨c, false, false⟩], s.place + (putN c).length, true, false⟩ (l.flatMap escG) := by
        rw [prun, e2, decide_eq_false (by omega)]
      show (prun s (c :: l.flatMap escG)).2 = none ∧ (prun s (c :: l.flatMap escG)).1.escaped = false ∧ (prun s (c :: l.flatMap escG)).1.parts = _
      rw [e4]
      obtain ⟨h1, h2, h3⟩ := ih ⟨s.parts ++ [⟨c, false, false⟩], s.place + (putN c).length, true, false⟩ rfl
      exact ⟨h1, h2, by rw [h3]; simp⟩

theorem flat_put (c : Nat) (hc : rightC c) : (putL c).flatMap escB = (escG c).flatMap putL := by
  have hlt := rightC_lt hc
  by_cases h : c < 128
  · have e : putL c = [UInt8.ofNat c] := by unfold putL; rw [put1 h]; rfl
    have e9 : putL 92 = [92] := rfl
    have hn : (UInt8.ofNat c).toNat = c := by rw [UInt8.toNat_ofNat']; exact Nat.mod_eq_of_lt (by omega)
    rw [e]
    unfold escG
    split
    · rename_i h1
      simp only [List.flatMap_cons, List.flatMap_nil, List.append_nil, escB, hn, if_pos h1, e, e9]
      rfl
    · rename_i h1
      simp only [List.flatMap_cons, List.flatMap_nil, List.append_nil, escB, hn, if_neg h1, e]
  · have e1 : escG c = [c] := by unfold escG; rw [if_neg (by omega)]
    rw [e1]
    have hall : ∀ b ∈ putL c, escB b = [b] := by
      intro b hb
      unfold putL at hb
      obtain ⟨x, hx, rfl⟩ := List.mem_map.1 hb
      have hx2 : 128 ≤ x ∧ x < 256 := by
        unfold putN at hx
        rw [if_neg h] at hx
        split at hx
        · simp at hx; omega
        · split at hx
          · simp at hx; omega
          · simp at hx; omega
      have hn : (UInt8.ofNat x).toNat = x := by rw [UInt8.toNat_ofNat']; exact Nat.mod_eq_of_lt (by omega)
      unfold escB
      rw [hn, if_neg (by omega)]
    have : ∀ l : List UInt8, (∀ b ∈ l, escB b = [b]) → l.flatMap escB = l := by
      intro l
      induction l with
      | nil => intro _; rfl
      | cons b l ih => intro h; rw [List.flatMap_cons, h b (by simp), ih fun x hx => h x (by simp [hx])]; rfl
    rw [this _ hall]
    simp
theorem quote_put (l : List Nat) (h : ∀ c ∈ l, rightC c) : (putAll l).flatMap escB = putAll (l.flatMap escG) := by
  induction l with
  | nil => rfl
  | cons c l ih =>
    rw [putAll_cons, List.flatMap_append, flat_put c (h c (by simp)), ih fun x hx => h x (by simp [hx]), List.flatMap_cons, putAll_app]
    rfl
theorem chrs_quote (s : ByteArray) (h : (chrs s).2 = none) : chrs (quoteS s) = ((chrs s).1.flatMap escG, none) := by
  have h1 := put_chrs s h
  have h2 := right_chrs s
  unfold quoteS
  rw [← h1, quote_put _ h2]
  refine chrs_put _ fun c hc => ?_
  obtain ⟨x, hx, hcx⟩ := List.mem_flatMap.1 hc
  unfold escG at hcx
  split at hcx
  · simp at hcx
    rcases hcx with rfl | rfl
    · exact .inl (by omega)
    · exact h2 _ hx
  · simp at hcx; subst hcx; exact h2 _ hx
theorem quote_size (s : ByteArray) : (quoteS s).size ≤ 2 * s.size := by
  have : ∀ l : List UInt8, (l.flatMap escB).length ≤ 2 * l.length := by
    intro l
    induction l with
    | nil => simp
    | cons b l ih =>
      rw [List.flatMap_cons, List.length_append, List.length_cons]
      have : (escB b).length ≤ 2 := by unfold escB; split <;> simp
      omega
  show (s.data.toList.flatMap escB).toArray.size ≤ 2 * s.data.toList.length
  simpa using this s.data.toList
theorem lang_lits (l u : List Nat) : Lang false (l.map fun c => ⟨c, false, false⟩) u ↔ u = l := by
  induction l generalizing u with
  | nil => simp [Lang]
  | cons c l ih =>
    simp only [List.map_cons]
    constructor
    · rintro ⟨a, b, rfl, h1, h2⟩
      obtain ⟨x, rfl, hx⟩ := (oneOk_one rfl).1 h1
      rw [(ih b).1 h2]
      have : c = x := by simpa [standsB] using hx
      rw [this]; rfl
    · rintro rfl
      exact ⟨[c], l, rfl, (oneOk_one rfl).2 ⟨c, rfl, by simp [standsB]⟩, (ih l).2 rfl⟩
theorem simpleB_bad (p s : ByteArray) {i : Nat} (h : (chrs s).2 = some i) : simpleB p s = false := by
  unfold simpleB; rw [h]; simp
theorem simple_quote (s t : ByteArray) (hs : s.size ≤ 400) (h : (chrs s).2 = none) : simpleB (quoteS s) t = decide (t = s) := by
  have h1 := chrs_quote s h
  obtain ⟨k1, k2, k3⟩ := prun_esc (chrs s).1 pinit rfl
  have hok : okSim (quoteS s) = true := by
    unfold okSim okP
    rw [h1]
    have := quote_size s
    simp only [k1, k2, decide_eq_true (show (quoteS s).size ≤ 1024 by omega)]
    rfl
  unfold simpleB
  rw [hok, Bool.true_and]
  have hp : patS (quoteS s) = (chrs s).1.map fun c => ⟨c, false, false⟩ := by
    unfold patS
    rw [h1, k3]
    rfl
  rw [hp, Bool.eq_iff_iff, Bool.and_eq_true, langB_iff, lang_lits, Option.isNone_iff_eq_none, decide_eq_true_eq]
  constructor
  · rintro ⟨h2, h3⟩
    have e1 := put_chrs s h
    have e2 := put_chrs t h2
    rw [h3, e1] at e2
    apply ByteArray.ext
    apply Array.ext'
    exact e2.symm
  · rintro rfl
    exact ⟨h, rfl⟩
end Go.Proofs.YtipenfeplampeaaDoor

/- glob.plain: the parts of a pattern. -/
namespace Go.Proofs.YtipenfeplampeaaDoor
open Go.RowKit

theorem patP_len (p : ByteArray) : (patP p).length ≤ p.size := by unfold patP; rw [List.length_map]; exact chrs_len p
theorem okP_none {p : ByteArray} (h : okP p = true) : (chrs p).2 = none ∧ p.size ≤ 1024 := by
  unfold okP at h
  rw [Bool.and_eq_true, decide_eq_true_iff, Option.isNone_iff_eq_none] at h
  exact ⟨h.2, h.1⟩
def PlainPost (p : ByteArray) (w : World) (e : Ending) (w' : World) : Prop :=
  Below w.heap.size w w' ∧ ((okP p = true ∧ ∃ v, e = .returned (.tuple #[v, .nilIface]) ∧ OwnP w' w.heap.size v (patP p)) ∨ (okP p = false ∧ ∃ u, e = .returned (.tuple #[.slice none 0 0, .iface 54 u])))

theorem map_take_one {cs : List Nat} {i c : Nat} (h : cs[i]? = some c) : (cs.take i).map partOf ++ [partOf c] = (cs.take (i + 1)).map partOf := by
  obtain ⟨hi, rfl⟩ := List.getElem?_eq_some_iff.1 h
  rw [List.take_succ_eq_append_getElem hi, List.map_append]; rfl

set_option maxHeartbeats 1600000 in
set_option maxRecDepth 100000 in
theorem glob_plain (p : ByteArray) (w : World) (hU : Utf8Laid w) (hp : p.size ≤ 16777216) : Calls Tryd.prog 47 #[.string p] w (PlainPost p w) := by
  go_enter Tryd.func47, Tryd.ntmps47
  go_wp2_with fail
  refine (glob_Check p _ hU hp).mono ?_
  rintro e w1 ⟨hb1, h⟩
  rcases h with ⟨hok, _, rfl⟩ | ⟨hok, _, v, rfl, hv⟩
  · have HOK := Lib.hid hok
    have HN := Lib.hid (okP_none hok).1
    clear hok
    have hU1 := hU.below hb1
    go_wp2_with ((with_reducible refine wpList_bytes_sl rfl 9 45 5 _ rfl p rfl Tryd.underlying9 Tryd.underlying45 Tryd.underlying5 (by omega) ?_); intro v1 w2 hv1 hb2)
    have hb12 := Bt hb1 hb2
    have hU2 := hU1.below hb2
    refine (utf_Chars v1 p _ hU2 hp hv1).mono ?_
    rintro e w3 ⟨hb3, h⟩
    have hb13 := Bt hb12 hb3
    rcases h with ⟨_, v3, rfl, hown⟩ | ⟨i, hi, _⟩
    · obtain ⟨a, c, rfl, hc1, hc2, hsl⟩ := chars_sl hown rfl
      have hlen := chrs_len p
      have hpat : patP p = (chrs p).1.map partOf := rfl
      have hpl := patP_len p
      rw [hpat] at hpl
      generalize (chrs p).1 = cs at *
      have HPAT := Lib.hid hpat
      unfold maxLen at hc2
      clear hown hb1 hb2 hb3 hb12 hU1 hU2 hpat
      go_wp2_with fail
      go_loopw [7, 23] (fun v x wr => ∃ i : Nat, i ≤ cs.length ∧ x = .int .i64 i ∧ OwnP wr w3.heap.size v ((cs.take i).map partOf) ∧ Below w3.heap.size w3 wr) (fun _ x _ => cs.length - (intOf x).toNat)
      case atStart => exact ⟨0, Nat.zero_le _, rfl, OwnP.nil _ _, Below.refl _ _⟩
      case round =>
        obtain ⟨i, hil, rfl, hown, hbr⟩ := hrel
        by_cases hlt : i < cs.length
        · obtain ⟨d, hd⟩ : ∃ d, cs[i]? = some d := ⟨_, List.getElem?_eq_getElem hlt⟩
          obtain ⟨b, rfl, hbw, hcell⟩ := (hsl.below hbr) i d hd
          have hmt := map_take_one hd
          have hdl : ((cs.take i).map partOf).length ≤ 16777216 := by rw [List.length_map]; have := List.length_take_le i cs; omega
          have hbs := (Bt hb13 hbr).size
          generalize (cs.take i).map partOf = done at *
          have hws := hbr.size
          by_cases h42 : d = 42
          · subst h42
            have HMT := Lib.hid hmt
            clear hmt hd
            have ho2 := hown.below ((Below.refl wr.heap.size wr).alloc (Nat.le_refl _) (.cells #[.int .i64 0, .bool true, .bool true] 135))
            have hbr2 := hbr.alloc hbr.size (.cells #[.int .i64 0, .bool true, .bool true] 135)
            go_wp2_with (at_builtin; refine wpList_app_part rfl (.tmp 35) (.tmp 37) rfl w3.heap.size _ _ rfl ho2 wr.heap.size 1 ⟨0, true, true⟩ rfl (heap_alloc_new wr _) (by omega) (by simp; omega) ?_)
            intro v4 w4 hown4 hg4
            have hbr4 := ho2.under hbr2 (Nat.le_refl _) hg4
            clear ho2 hbr2 hown hbr hg4
            go_wp2_with fail
            go_roundw
            case rel => exact ⟨i + 1, by omega, by go_num, by rw [← HMT.out]; exact hown4, hbr4⟩
            case measure => simp [intOf]; omega
          · have e1 : ((d : Int) == 42) = false := by rw [beq_eq_false_iff_ne]; omega
            by_cases h63 : d = 63
            · subst h63
              have HMT := Lib.hid hmt
              clear hmt hd h42
              have ho2 := hown.below ((Below.refl wr.heap.size wr).alloc (Nat.le_refl _) (.cells #[.int .i64 0, .bool true, .bool false] 135))
              have hbr2 := hbr.alloc hbr.size (.cells #[.int .i64 0, .bool true, .bool false] 135)
              go_wp2_with (at_builtin; refine wpList_app_part rfl (.tmp 41) (.tmp 43) rfl w3.heap.size _ _ rfl ho2 wr.heap.size 1 ⟨0, true, false⟩ rfl (heap_alloc_new wr _) (by omega) (by simp; omega) ?_)
              intro v4 w4 hown4 hg4
              have hbr4 := ho2.under hbr2 (Nat.le_refl _) hg4
              clear ho2 hbr2 hown hbr hg4
              go_wp2_with fail
              go_roundw
              case rel => exact ⟨i + 1, by omega, by go_num, by rw [← HMT.out]; exact hown4, hbr4⟩
              case measure => simp [intOf]; omega
            · have e2 : ((d : Int) == 63) = false := by rw [beq_eq_false_iff_ne]; omega
              rw [partOf_char h42 h63] at hmt
              have HMT := Lib.hid hmt
              clear hmt hd h42 h63
              have ho2 := hown.below ((Below.refl wr.heap.size wr).alloc (Nat.le_refl _) (.cells #[.int .i64 (d : Int), .bool false, .bool false] 135))
              have hbr2 := hbr.alloc hbr.size (.cells #[.int .i64 (d : Int), .bool false, .bool false] 135)
              go_wp2_with (at_builtin; refine wpList_app_part rfl (.tmp 28) (.tmp 31) rfl w3.heap.size _ _ rfl ho2 wr.heap.size 1 ⟨d, false, false⟩ rfl (heap_alloc_new wr _) (by omega) (by simp; omega) ?_)
              intro v4 w4 hown4 hg4
              have hbr4 := ho2.under hbr2 (Nat.le_refl _) hg4
              clear ho2 hbr2 hown hbr hg4
              go_wp2_with fail
              go_roundw
              case rel => exact ⟨i + 1, by omega, by go_num, by rw [← HMT.out]; exact hown4, hbr4⟩
              case measure => simp [intOf]; omega
        · obtain rfl : i = cs.length := by omega
          rw [List.take_length, ← HPAT.out] at hown
          have hb4 := Bt hb13 hbr
          have hown5 := ownsRow_base hown hb13.size
          clear hown
          go_wp2_with fail
          go_ret2
          exact ⟨hb4, .inl ⟨HOK.out, _, rfl, hown5⟩⟩
    · rw [HN.out] at hi; cases hi
  · obtain ⟨u, rfl⟩ := hv.ne_nil
    have HOK := Lib.hid hok
    clear hok
    go_wp2_with fail
    go_ret2
    exact ⟨hb1, .inr ⟨HOK.out, u, rfl⟩⟩
end Go.Proofs.YtipenfeplampeaaDoor
