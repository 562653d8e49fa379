/- An address that a function gives back out of a variable of its own. -/
import Derived.Test.YtameipbnobaoeaaDoorHexadMappedM7
import Derived.Laws.Tables
import Derived.Laws.ResultCell
import Derived.Test.YtameipbnobaoeaaDoorHexadMappedM4
import Derived.Test.YtameipbnobaoeaaDoorHexadMappedM6
import Derived.Deep.DeepCutAuto
import Derived.Deep.DeepMust
import Derived.Deep.QuietTactic
import Derived.BigQuiet

namespace Go.Proofs.YtameipbnobaoeaaDoor
open Go.RowKit

theorem info_v4 : (Tryd.prog.info? 37).map (·.size) = some 4 := by kernel_rfl
/-- In block g lies an address. -/
def V4At (w : World) (g : Nat) (cs : Array Value) : Prop := cs.size = 4 ∧ w.heap[g]? = some (.cells cs 37 (0, 0))
def zero4 : Array Value := #[.int .u8 0, .int .u8 0, .int .u8 0, .int .u8 0]
theorem V4At.new (w : World) : V4At (w.alloc (.cells #[.int .u8 0, .int .u8 0, .int .u8 0, .int .u8 0] 37)) w.heap.size zero4 := ⟨rfl, heap_alloc_new w _⟩
theorem V4At.lt {w : World} {g : Nat} {cs : Array Value} (h : V4At w g cs) : g < w.heap.size := lt_of_block h.2
theorem V4At.below {w w' : World} {g : Nat} {cs : Array Value} (h : V4At w g cs) (hb : Below w.heap.size w w') : V4At w' g cs := ⟨h.1, (hb.block g h.lt).trans h.2⟩
theorem V4At.drewN {w : World} {g : Nat} {cs : Array Value} (h : V4At w g cs) (n : Nat) : V4At (w.drewN n) g cs := h
theorem V4At.set {w : World} {g : Nat} {cs : Array Value} (h : V4At w g cs) (ds : Array Value) (hd : ds.size = 4) : V4At (w.setRow g ds) g ds := ⟨hd, setRow_heap w g _ ds _ _ h.2⟩
theorem below_setRow {B : Nat} {a w : World} (h : Below B a w) {g : Nat} (hg : B ≤ g) (cs : Array Value) : Below B a (w.setRow g cs) :=
  ⟨h.os, h.tape, h.output, by simpa using h.size, fun k hk => (setRow_other w g k cs (by omega)).trans (h.block k hk)⟩
theorem V4At.load {w : World} {g : Nat} {cs : Array Value} (h : V4At w g cs) : (loadVar 37 ⟨g, 0, none⟩).run Tryd.prog w = .ok (.agg cs) w :=
  run_loadVar_row w g _ _ cs _ _ h.2 Tryd.underlying37 rfl (by rw [info_v4, h.1])
theorem FaultIs.setV4 {w : World} {v : Value} {k i : Int} {n : Value} {g : Nat} {cs : Array Value} (h : FaultIs w v k i n) (hg : V4At w g cs) (ds : Array Value) : FaultIs (w.setRow g ds) v k i n := by
  obtain ⟨b, rfl, hh⟩ := h
  have hne : b ≠ g := by
    rintro rfl
    have := hg.2
    rw [hh] at this
    injection this with this
    injection this with h1 h2
    have := hg.1
    rw [← h1] at this
    cases this
  exact ⟨b, rfl, (setRow_other w g b ds hne).trans hh⟩
section
variable {fn : Func} {p u v : Tmp} {tmps : Array Value} {w : World} {g : Nat} {cs : Array Value}
theorem results_v4 (h : fn.results = #[.cell p 37, .tmp u]) (hp : tmps.getD p undef = .pointer (some ⟨g, 0, none⟩)) (hg : V4At w g cs) :
    (results fn tmps).run Tryd.prog w = .ok (.tuple #[.agg cs, tmps.getD u undef]) w := by
  rw [results_cell_tmp h, hp]
  simp [asAddr, Result.andThen, hg.load]
theorem results_v4_3 (h : fn.results = #[.cell p 37, .tmp u, .tmp v]) (hp : tmps.getD p undef = .pointer (some ⟨g, 0, none⟩)) (hg : V4At w g cs) :
    (results fn tmps).run Tryd.prog w = .ok (.tuple #[.agg cs, tmps.getD u undef, tmps.getD v undef]) w := by
  have hp' : tmps[p]?.getD undef = .pointer (some ⟨g, 0, none⟩) := by simpa using hp
  simp [results, h, hp', asAddr, Result.andThen, hg.load, Sem.run_bind]
end
section
variable {w : World} {ops : Array Oper} {rest : List Oper} {o : Oper} {a : Act} {Q : Exit → Act → World → Prop}
/-- An address is stored into a variable of the function's own. -/
theorem all_one (p q r s : Int) : (#[Value.int .u8 p, .int .u8 q, .int .u8 r, .int .u8 s] : Array Value).all (·.oneCell') = true := by simp [Value.oneCell']
theorem wpList_store_v4 (hgd : o.guard = none) (x y : Operand) (ho : o.op = .store 37 x y) (g : Nat) (p q r s : Int) (hx : a.eval x = .pointer (some ⟨g, 0, none⟩)) (hy : a.eval y = .agg #[.int .u8 p, .int .u8 q, .int .u8 r, .int .u8 s]) (old : Array Value) (hg : V4At w g old)
    (h : V4At (w.setRow g #[.int .u8 p, .int .u8 q, .int .u8 r, .int .u8 s]) g #[.int .u8 p, .int .u8 q, .int .u8 r, .int .u8 s] → wpList Tryd.prog ops Q rest (a.put o.dst undef) (w.setRow g #[.int .u8 p, .int .u8 q, .int .u8 r, .int .u8 s])) : wpList Tryd.prog ops Q (o :: rest) a w :=
  wpList_store_row hgd _ x y ho g _ hx hy _ old hg.2 (by rw [info_v4]; rfl) hg.1 (all_one p q r s) (h (hg.set _ rfl))
end
end Go.Proofs.YtameipbnobaoeaaDoor

/- quad.Parse. -/
namespace Go.Proofs.YtameipbnobaoeaaDoor
open Go.RowKit

/-- An error of a kind at a place, of nothing within; 0: none. -/
def IsErrN (w : World) (v : Value) (k i : Nat) : Prop := (k = 0 ∧ v = .nilIface) ∨ (k ≠ 0 ∧ IsFault w v (k : Int) (i : Int))
theorem IsErrN.isErr {w : World} {v : Value} {k i : Nat} (h : IsErrN w v k i) : IsErr w v k i := by
  rcases h with h | ⟨h, h2⟩
  · exact .inl h
  · exact .inr ⟨h, _, h2⟩
theorem IsErrN.below {w w' : World} {v : Value} {k i : Nat} (h : IsErrN w v k i) (hb : Below w.heap.size w w') : IsErrN w' v k i := by
  rcases h with h | ⟨h, h2⟩
  · exact .inl h
  · exact .inr ⟨h, FaultIs.below h2 hb⟩
def QParsePost (s : ByteArray) (w : World) (e : Ending) (w' : World) : Prop := Below w.heap.size w w' ∧ ∃ v, e = .returned (.tuple #[v4N (parseQ s).1, v]) ∧ IsErrN w' v (parseQ s).2.1 (parseQ s).2.2
theorem QParsePost.bad {s : ByteArray} {w w' : World} {v : Value} {k a : Nat} (hb : Below w.heap.size w w') (h : parseQ s = (0, k, a)) (hk : k ≠ 0) (hv : IsFault w' v (k : Int) (a : Int)) : QParsePost s w (.returned (.tuple #[.agg zero4, v])) w' := by
  refine ⟨hb, v, ?_, ?_⟩
  · rw [h]; simp [v4N, v4, zero4]
  · rw [h]; exact .inr ⟨hk, hv⟩
theorem QParsePost.good {s : ByteArray} {w w' : World} {t : Nat} (hb : Below w.heap.size w w') (h : parseQ s = (t, 0, 0)) : QParsePost s w (.returned (.tuple #[v4N t, .nilIface])) w' := by
  refine ⟨hb, .nilIface, ?_, ?_⟩
  · rw [h]
  · rw [h]; exact .inl ⟨rfl, rfl⟩
theorem v4N_mod (t : Nat) : v4N (t % 4294967296) = v4N t := by
  unfold v4N
  rw [show t % 4294967296 / 16777216 % 256 = t / 16777216 % 256 by omega, show t % 4294967296 / 65536 % 256 = t / 65536 % 256 by omega, show t % 4294967296 / 256 % 256 = t / 256 % 256 by omega, show t % 4294967296 % 256 = t % 256 by omega]

set_option maxHeartbeats 6400000 in
set_option maxRecDepth 100000 in
theorem quad_Parse (s : ByteArray) (hs : s.size ≤ 16777216) (w : World) : Calls Tryd.prog 37 #[.string s] w (QParsePost s w) := by
  have cC := Lib.hid (fun W => quad_cut s hs W)
  have hcz := cutP_size s
  have cF := Lib.hid (fun W => fold_Fields (cutP s) 46 4 W (by omega) (by omega) (by omega))
  have HOV := Lib.hid (fun i h1 h2 h3 => parse_over (s := s) (over_some (t := cutP s) (mark := 46) (most := 4) (i := i) h1 h2 h3))
  have HON := Lib.hid (fun h => over_none (t := cutP s) (mark := 46) (most := 4) h)
  have HB := Lib.hid (fun k a h h2 => @parse_bad s k a h h2)
  have HR := Lib.hid (fun t p h h2 h3 => @parse_range s t p h h2 h3)
  have HG := Lib.hid (fun t h h2 h3 => @parse_good s t h h2 h3)
  have hpost := fun w' v k a hb h hk hv => @QParsePost.bad s w w' v k a hb h hk hv
  have hpost2 := fun w' t hb h => @QParsePost.good s w w' t hb h
  have HP := Lib.hid hpost
  have HP2 := Lib.hid hpost2
  clear hpost hpost2
  generalize cutP s = t at *
  go_enter Tryd.func37, Tryd.ntmps37
  go_wp2_with fail
  refine (cC.out _).mono ?_
  rintro e w2 ⟨rfl, rfl⟩
  go_wp2_with fail
  refine (cF.out _).mono ?_
  rintro e w3 ⟨hb3, h⟩
  have hz3 := (V4At.new w).below hb3
  have hb13 : Below w.heap.size w w3 := ((Below.refl _ _).alloc (Nat.le_refl _) _).trans (hb3.mono (by simp))
  have hw3 : w.heap.size < w3.heap.size := hz3.lt
  clear hb3
  rcases h with ⟨v, rfl, hlen, hown⟩ | ⟨i, v, rfl, hi, hmk, hlen, hv⟩
  · have hon := HON.out (by omega)
    have hfl := fields_len t 46
    have hfz := fields_sizes t 46
    have hown : w3.ownsRow (w.heap.size + 1) 9 1 v (fieldsB t 46).length ((fieldsB t 46).map strV) := by rw [hfl]; have h := hown; simp only [World.size_alloc] at h; exact h
    have HB' := Lib.hid (fun k a h2 => HB.out k a hon h2)
    have HR' := Lib.hid (fun u p h2 h3 => HR.out u p hon h2 h3)
    have HG' := Lib.hid (fun u h2 h3 => HG.out u hon h2 h3)
    have HCN := Lib.hid (fun h => check_none (ps := fieldsB t 46) 0 h)
    have hn4 : (fieldsB t 46).length ≤ 4 := by rw [hfl]; omega
    have hn1 : 1 ≤ (fieldsB t 46).length := by rw [hfl]; omega
    obtain ⟨pa, pc, rfl, hpc1, hpc2, hrow⟩ := row_sl (l := (fieldsB t 46).map strV) hown (by simp)
    rw [List.length_map] at hpc1 ⊢
    generalize fieldsB t 46 = ps at *
    unfold maxLen at hpc2
    have HFZ := Lib.hid hfz
    clear hlen hown hfl HB HR HG HON HOV hon hfz
    have hrows : ∀ i p, ps[i]? = some p → ∃ b, pa = some ⟨b, 0, none⟩ ∧ b < w3.heap.size ∧ w3.cell? ⟨b, i, none⟩ = some (.string p) := fun i p h => hrow i _ (by rw [List.getElem?_map, h]; rfl)
    have HROW := Lib.hid hrows
    clear hrows hrow
    go_wp2_with fail
    go_loopw [6, 29] (fun a x wr => ∃ i n : Nat, i ≤ ps.length ∧ x = .int .i64 i ∧ a = .int .i64 n ∧ n ≤ i * 16777217 ∧ checkQ ps 0 = checkQ (ps.drop i) n ∧ Below w3.heap.size w3 wr) (fun _ x _ => ps.length - (intOf x).toNat)
    case atStart => exact ⟨0, 0, Nat.zero_le _, rfl, rfl, Nat.zero_le _, rfl, Below.refl _ _⟩
    case round =>
      obtain ⟨i, n, hil, rfl, rfl, hn, hck, hbr⟩ := hrel
      by_cases hlt : i < ps.length
      · obtain ⟨p, hp⟩ : ∃ p, ps[i]? = some p := ⟨_, List.getElem?_eq_getElem hlt⟩
        have hpz := HFZ.out p (List.mem_of_getElem? hp)
        obtain ⟨b, rfl, hbl, hbc⟩ := HROW.out i p hp
        rw [drop_cons hp] at hck
        have hbl2 := Nat.lt_of_lt_of_le hbl hbr.size
        have hbc2 := (hbr.cell (p := ⟨b, i, none⟩) hbl).trans hbc
        have hyes := fun h => hck.trans (check_yes (ps := ps.drop (i + 1)) (a := n) h)
        have hno := fun k j h => hck.trans (check_no (p := p) (ps := ps.drop (i + 1)) (a := n) (k := k) (j := j) h)
        have HY := Lib.hid hyes
        have HNO := Lib.hid hno
        clear hck hyes hno hp hbl hbc
        go_wp2_with fail
        refine (quad_checked p n (by omega) (by omega) _).mono ?_
        rintro e w4 ⟨hb4, h⟩
        have hb5 := Bt hbr hb4
        rcases h with ⟨hbad, rfl⟩ | ⟨k, j, hbad, hk, u, rfl, hu⟩
        · have HCK := Lib.hid (HY.out hbad)
          clear hbad
          go_wp2_with fail
          go_roundw
          case rel => exact ⟨i + 1, n + (p.size + 1), by omega, by go_num, by go_num, by omega, HCK.out, hb5⟩
          case measure => simp [intOf]; omega
        · have HV := Lib.hid (HB'.out k (n + j) (HNO.out k j hbad))
          have HU := Lib.hid hu
          obtain ⟨q, rfl⟩ := hu.ne_nil
          have hz4 := hz3.below hb5
          have hk0 : k ≠ 0 := by omega
          have HK0 := Lib.hid hk0
          clear hu hbad hk hk0
          go_wp2_with (refine wpList_store_v4 (o := ⟨none, _, _, _, _, _⟩) rfl _ _ rfl w.heap.size 0 0 0 0 rfl rfl _ hz4 ?_; intro hst)
          (try simp only [Exit.inBlock, Exit.then])
          refine bodyPost_ret (results_v4 rfl rfl hst) rfl ?_
          refine HP.out _ _ k (n + j) (below_setRow (hb13.trans (hb5.mono (Nat.le_of_lt hw3))) (Nat.le_refl _) _) HV.out HK0.out (HU.out.setV4 hz4 _)
      · obtain rfl : i = ps.length := by omega
        rw [List.drop_length] at hck
        have hck0 : checkQ ps 0 = none := hck
        have hbads := HCN.out hck0
        have HR := Lib.hid (fun u p h3 => HR'.out u p hck0 h3)
        have HG := Lib.hid (fun u h3 => HG'.out u hck0 h3)
        have HBADS := Lib.hid hbads
        have hz4 := hz3.below hbr
        have hb14 := hb13.trans (hbr.mono (Nat.le_of_lt hw3))
        have hrows4 : ∀ i p, ps[i]? = some p → ∃ b, pa = some ⟨b, 0, none⟩ ∧ b < wr.heap.size ∧ wr.cell? ⟨b, i, none⟩ = some (.string p) := fun i p h => by
          obtain ⟨b, e, h1, h2⟩ := HROW.out i p h
          exact ⟨b, e, Nat.lt_of_lt_of_le h1 hbr.size, (hbr.cell (p := ⟨b, i, none⟩) h1).trans h2⟩
        have HROW4 := Lib.hid hrows4
        have hw4 : w.heap.size < wr.heap.size := hz4.lt
        obtain ⟨w5, hw5⟩ : ∃ x, x = wr := ⟨_, rfl⟩
        subst hw5
        clear hck hck0 hbads hrows4 HROW HCN HR' HG' HB' hz3 hb13 hw3 hbr hn hil
        go_wp2_with fail
        go_loopw [6, 10, 48] (fun a b x wr => ∃ i n u : Nat, i ≤ ps.length ∧ x = .int .i64 i ∧ a = .int .i64 n ∧ b = .int .u64 u ∧ n ≤ i * 16777217 ∧ u ≤ i * 4294967295 ∧ sumQ ps.length ps 0 0 0 = sumQ ps.length (ps.drop i) i n u ∧ Below w5.heap.size w5 wr) (fun _ _ x _ => ps.length - (intOf x).toNat)
        case atStart => exact ⟨0, 0, 0, Nat.zero_le _, rfl, rfl, rfl, Nat.zero_le _, Nat.zero_le _, rfl, Below.refl _ _⟩
        case round =>
          obtain ⟨i, n, u, hil, rfl, rfl, rfl, hn, hu, hck, hbr⟩ := hrel
          by_cases hlt : i < ps.length
          · obtain ⟨p, hp⟩ : ∃ p, ps[i]? = some p := ⟨_, List.getElem?_eq_getElem hlt⟩
            have hpz := HFZ.out p (List.mem_of_getElem? hp)
            have hbad := HBADS.out p (List.mem_of_getElem? hp)
            obtain ⟨b, rfl, hbl, hbc⟩ := HROW4.out i p hp
            rw [drop_cons hp] at hck
            have hbl2 := Nat.lt_of_lt_of_le hbl hbr.size
            have hbc2 := (hbr.cell (p := ⟨b, i, none⟩) hbl).trans hbc
            have hno := fun h => hck.trans (sum_no (n := ps.length) (i := i) (a := n) (t := u) (p := p) (ps := ps.drop (i + 1)) h)
            have hyes := fun h => hck.trans (sum_yes (n := ps.length) (i := i) (a := n) (t := u) (p := p) (ps := ps.drop (i + 1)) h)
            have hlw := fun h => lim_wt (i := i) (n := ps.length) (x := numQ p) hlt hn4 h
            have hl40 := lim_p40 (i := i) (n := ps.length) hlt hn4
            have cN := Lib.hid (fun W => quad_number p (by omega) hbad W)
            have HY := Lib.hid hyes
            have HNO := Lib.hid hno
            have HLW := Lib.hid hlw
            clear hck hyes hno hp hbl hbc hbad hlw
            go_upto_region 18 with (fail)
            go_cut [13, 14] (fun a b wx => ∃ nq, a = .int .u64 255 ∧ b = .int .u64 ((256 ^ (3 - i) : Nat) : Int) ∧ wx = wr.drewN nq)
            case first =>
              have h4 : i = 0 ∨ i = 1 ∨ i = 2 ∨ i = 3 := by omega
              clear hbc2 hbl2 hu hn
              rcases h4 with rfl | rfl | rfl | rfl
              all_goals
                go_quiet (fail)
                go_wp2_with fail
                go_meet
                exact ⟨_, rfl, rfl, rfl⟩
            case rest =>
              obtain ⟨nq, rfl, rfl, rfl⟩ := hcut
              have hbr9 := below_drewN hbr nq
              have hbc9 : (wr.drewN nq).cell? ⟨b, i, none⟩ = some (.string p) := hbc2
              have hbl9 : b < (wr.drewN nq).heap.size := hbl2
              clear hbr hbc2 hbl2
              generalize wr.drewN nq = w9 at *
              go_upto_if 61 with (fail)
              go_cut [13, 14] (fun a b wx => a = .int .u64 (limQ i ps.length : Nat) ∧ b = .int .u64 (wtQ i ps.length : Nat) ∧ w9 = wx)
              case first =>
                clear hbc9 hbl9 hu hn hl40
                by_cases hlast : i + 1 = ps.length
                · have e1 : ((i : Int) == (ps.length : Int) - 1) = true := by rw [beq_iff_eq]; omega
                  have hl : limQ i ps.length = 256 ^ (5 - ps.length) - 1 := by unfold limQ; rw [if_pos hlast]
                  have hw : wtQ i ps.length = 1 := by unfold wtQ; rw [if_pos hlast]
                  have h4 : ps.length = 1 ∨ ps.length = 2 ∨ ps.length = 3 ∨ ps.length = 4 := by omega
                  have HL := Lib.hid hl
                  have HW := Lib.hid hw
                  clear hl hw hlast hlt
                  generalize ps.length = k at *
                  rcases h4 with rfl | rfl | rfl | rfl
                  all_goals
                    go_wp2_with fail
                    go_meet
                    exact ⟨by rw [HL.out]; rfl, by rw [HW.out]; rfl, rfl⟩
                · have e1 : ((i : Int) == (ps.length : Int) - 1) = false := by rw [beq_eq_false_iff_ne]; omega
                  have hl : limQ i ps.length = 255 := by unfold limQ; rw [if_neg hlast]
                  have hw : wtQ i ps.length = 256 ^ (3 - i) := by unfold wtQ; rw [if_neg hlast]
                  have HL := Lib.hid hl
                  have HW := Lib.hid hw
                  clear hl hw hlast
                  go_wp2_with fail
                  go_meet
                  exact ⟨by rw [HL.out]; rfl, by rw [HW.out], rfl⟩
              case rest =>
                obtain ⟨rfl, rfl, rfl⟩ := hcut
                generalize limQ i ps.length = lim at *
                generalize wtQ i ps.length = wt at *
                go_wp2_with fail
                refine (cN.out _).mono ?_
                rintro e w6 ⟨hb6, rfl⟩
                have hb56 := Bt hbr9 hb6
                have hz6 := hz4.below hb56
                have hb16 := hb14.trans (hb56.mono (Nat.le_of_lt hw4))
                clear cN hb6 hbr9 hbc9 hbl9
                generalize numQ p = m at *
                by_cases hp40 : m < p40
                · rw [if_pos hp40, decide_eq_true hp40]
                  clear hp40
                  by_cases hlm : lim < m
                  · have HV := Lib.hid (HR.out 0 n (HNO.out hlm))
                    have hlmI : (lim : Int) < (m : Int) := by omega
                    have dlm : decide ((lim : Int) < (m : Int)) = true := decide_eq_true hlmI
                    clear hlm
                    go_wp2_with fail
                    refine (api_Fail' 16 n _).mono ?_
                    rintro e w7 ⟨f, rfl, hf, hb7⟩
                    have hz7 := hz6.below hb7
                    have hb17 := hb16.trans (hb7.mono (Nat.le_of_lt hz6.lt))
                    have HF := Lib.hid hf
                    obtain ⟨q, rfl⟩ := hf.ne_nil
                    clear hf
                    go_wp2_with (refine wpList_store_v4 (o := ⟨none, _, _, _, _, _⟩) rfl _ _ rfl w.heap.size 0 0 0 0 rfl rfl _ hz7 ?_; intro hst)
                    (try simp only [Exit.inBlock, Exit.then])
                    refine bodyPost_ret (results_v4 rfl rfl hst) rfl ?_
                    exact HP.out _ _ 16 n (below_setRow hb17 (Nat.le_refl _) _) HV.out (by decide) (HF.out.setV4 hz7 _)
                  · obtain ⟨hmw, _⟩ := HLW.out hlm
                    have HCK := Lib.hid (HY.out hlm)
                    have hlmI : (m : Int) ≤ (lim : Int) := by omega
                    have hmwI : (m : Int) * (wt : Int) ≤ 4294967295 := by rw [← Int.natCast_mul]; omega
                    have hmw0 : (0 : Int) ≤ (m : Int) * (wt : Int) := by rw [← Int.natCast_mul]; omega
                    have huI : (u : Int) ≤ 17179869180 := by omega
                    have HMW := Lib.hid hmw
                    have HU := Lib.hid hu
                    clear hlm hmw hu
                    go_wp2_with fail
                    go_roundw
                    case rel => exact ⟨i + 1, n + (p.size + 1), u + m * wt, by omega, by go_num, by go_num, by rw [Int.natCast_add, Int.natCast_mul], by omega, by have := HMW.out; have := HU.out; omega, HCK.out, hb56⟩
                    case measure => simp [intOf]; omega
                · have hlm : lim < m := by unfold p40 at hp40; omega
                  have HV := Lib.hid (HR.out 0 n (HNO.out hlm))
                  rw [if_neg hp40, decide_eq_false hp40]
                  clear hp40 hlm
                  go_wp2_with fail
                  refine (api_Fail' 16 n _).mono ?_
                  rintro e w7 ⟨f, rfl, hf, hb7⟩
                  have hz7 := hz6.below hb7
                  have hb17 := hb16.trans (hb7.mono (Nat.le_of_lt hz6.lt))
                  have HF := Lib.hid hf
                  obtain ⟨q, rfl⟩ := hf.ne_nil
                  clear hf
                  go_wp2_with (refine wpList_store_v4 (o := ⟨none, _, _, _, _, _⟩) rfl _ _ rfl w.heap.size 0 0 0 0 rfl rfl _ hz7 ?_; intro hst)
                  (try simp only [Exit.inBlock, Exit.then])
                  refine bodyPost_ret (results_v4 rfl rfl hst) rfl ?_
                  exact HP.out _ _ 16 n (below_setRow hb17 (Nat.le_refl _) _) HV.out (by decide) (HF.out.setV4 hz7 _)
          · obtain rfl : i = ps.length := by omega
            rw [List.drop_length] at hck
            have HV := Lib.hid (HG.out u hck)
            have hz5 := hz4.below hbr
            have hb15 := hb14.trans (hbr.mono (Nat.le_of_lt hw4))
            have e32 : (u : Int) % 4294967296 = ((u % 4294967296 : Nat) : Int) := by omega
            have E32 := Lib.hid e32
            have huz : (u : Int) ≤ 18446744073709551615 := by omega
            have hw5 : w.heap.size < wr.heap.size := hz5.lt
            clear hck e32 hn hu
            go_wp2_with fail
            rw [E32.out]
            refine (quad_Of (u % 4294967296) (by omega) _).mono ?_
            rintro e w6 ⟨rfl, hb6⟩
            have hz6 := hz5.below hb6
            have hb16 := hb15.trans (hb6.mono (Nat.le_of_lt hw5))
            rw [v4N_mod]
            unfold v4N v4
            go_wp2_with (refine wpList_store_v4 (o := ⟨none, _, _, _, _, _⟩) rfl _ _ rfl w.heap.size _ _ _ _ rfl rfl _ hz6 ?_; intro hst)
            (try simp only [Exit.inBlock, Exit.then])
            refine bodyPost_ret (results_v4 rfl rfl hst) rfl ?_
            exact HP2.out _ u (below_setRow hb16 (Nat.le_refl _) _) HV.out
  · have HV := Lib.hid (HOV.out i hi hmk (by omega))
    have HU := Lib.hid hv
    obtain ⟨q, rfl⟩ := hv.ne_nil
    clear hv hi hmk hlen
    go_wp2_with (refine wpList_store_v4 (o := ⟨none, _, _, _, _, _⟩) rfl _ _ rfl w.heap.size 0 0 0 0 rfl rfl _ hz3 ?_; intro hst)
    (try simp only [Exit.inBlock, Exit.then])
    refine bodyPost_ret (results_v4 rfl rfl hst) rfl ?_
    refine HP.out _ _ 15 i (below_setRow hb13 (Nat.le_refl _) _) HV.out (by decide) (HU.out.setV4 hz3 _)
end Go.Proofs.YtameipbnobaoeaaDoor

/- Two addresses, compared. -/
namespace Go.Proofs.YtameipbnobaoeaaDoor
open Go.RowKit

theorem equalIn_v4 (d : Nat) (hE : ∀ (a b : Int) (w : World), (Op.equalIn d 5 (.int .u8 a) (.int .u8 b)).run Tryd.prog w = .ok (a == b) w) (p q r s p' q' r' s' : Int) (w : World) : (Op.equalIn (d + 1) 37 (.agg #[.int .u8 p, .int .u8 q, .int .u8 r, .int .u8 s]) (.agg #[.int .u8 p', .int .u8 q', .int .u8 r', .int .u8 s'])).run Tryd.prog w = .ok ((p == p') && ((q == q') && ((r == r') && (s == s')))) w := by
  have h : Tryd.prog.underlying 37 = some (.array 4 5) := Tryd.underlying37
  have hz : ∀ w : World, (sizeOf 5).run Tryd.prog w = .ok 1 w := fun w => by kernel_rfl
  have q0 : ∀ (a b c d : Int) (w : World), (part 5 #[.int .u8 a, .int .u8 b, .int .u8 c, .int .u8 d] 0).run Tryd.prog w = .ok (.int .u8 a) w := fun _ _ _ _ _ => by kernel_rfl
  have q1 : ∀ (a b c d : Int) (w : World), (part 5 #[.int .u8 a, .int .u8 b, .int .u8 c, .int .u8 d] 1).run Tryd.prog w = .ok (.int .u8 b) w := fun _ _ _ _ _ => by kernel_rfl
  have q2 : ∀ (a b c d : Int) (w : World), (part 5 #[.int .u8 a, .int .u8 b, .int .u8 c, .int .u8 d] 2).run Tryd.prog w = .ok (.int .u8 c) w := fun _ _ _ _ _ => by kernel_rfl
  have q3 : ∀ (a b c d : Int) (w : World), (part 5 #[.int .u8 a, .int .u8 b, .int .u8 c, .int .u8 d] 3).run Tryd.prog w = .ok (.int .u8 d) w := fun _ _ _ _ _ => by kernel_rfl
  simp only [Op.equalIn, Sem.run_bind, run_underlying h, Result.andThen_ok, hz]
  simp only [Std.Legacy.Range.forIn_eq_forIn_range', Std.Legacy.Range.size]
  simp [List.range', hE, q0, q1, q2, q3, Sem.run_bind]
  by_cases h1 : p = p'
  · by_cases h2 : q = q'
    · by_cases h3 : r = r'
      · by_cases h4 : s = s'
        · simp [h1, h2, h3, h4]
        · simp [h1, h2, h3, h4]
      · simp [h1, h2, h3]
    · simp [h1, h2]
  · simp [h1]
theorem eq_v4 (p q r s p' q' r' s' : Int) (w : World) : (Op.equalIn 10000 37 (.agg #[.int .u8 p, .int .u8 q, .int .u8 r, .int .u8 s]) (.agg #[.int .u8 p', .int .u8 q', .int .u8 r', .int .u8 s'])).run Tryd.prog w = .ok ((p == p') && ((q == q') && ((r == r') && (s == s')))) w :=
  equalIn_v4 9999 (fun a b w => run_equalIn_int w 9998 _ .u8 .u8 a b Tryd.underlying5) p q r s p' q' r' s' w
theorem eql_v4 (p q r s p' q' r' s' : Int) (w : World) : (binOp .eql 37 (.agg #[.int .u8 p, .int .u8 q, .int .u8 r, .int .u8 s]) (.agg #[.int .u8 p', .int .u8 q', .int .u8 r', .int .u8 s'])).run Tryd.prog w = .ok (.bool ((p == p') && ((q == q') && ((r == r') && (s == s'))))) w := by
  rw [run_eql_struct, eq_v4]; rfl
theorem neq_v4 (p q r s p' q' r' s' : Int) (w : World) : (binOp .neq 37 (.agg #[.int .u8 p, .int .u8 q, .int .u8 r, .int .u8 s]) (.agg #[.int .u8 p', .int .u8 q', .int .u8 r', .int .u8 s'])).run Tryd.prog w = .ok (.bool (!((p == p') && ((q == q') && ((r == r') && (s == s')))))) w := by
  rw [run_neq_struct, eq_v4]; rfl
theorem same_v4 (n : Nat) (w : World) : (binOp .eql 37 (v4N n) (v4N n)).run Tryd.prog w = .ok (.bool true) w := by
  unfold v4N v4
  rw [eql_v4]
  simp
theorem same_v4' (n : Nat) (w : World) : (binOp .neq 37 (v4N n) (v4N n)).run Tryd.prog w = .ok (.bool false) w := by
  unfold v4N v4
  rw [neq_v4]
  simp
theorem V4At.made (w : World) (a b c d : Int) : V4At (w.alloc (.cells #[.int .u8 a, .int .u8 b, .int .u8 c, .int .u8 d] 37)) w.heap.size #[.int .u8 a, .int .u8 b, .int .u8 c, .int .u8 d] := ⟨rfl, heap_alloc_new w _⟩
theorem V4At.cells {w : World} {g : Nat} {a b c d : Value} (h : V4At w g #[a, b, c, d]) : w.cell? ⟨g, 0, none⟩ = some a ∧ w.cell? ⟨g, 1, none⟩ = some b ∧ w.cell? ⟨g, 2, none⟩ = some c ∧ w.cell? ⟨g, 3, none⟩ = some d := by
  have := h.2
  refine ⟨?_, ?_, ?_, ?_⟩ <;> (rw [cell_of_row w g _ _ _ _ h.2]; rfl)
end Go.Proofs.YtameipbnobaoeaaDoor
