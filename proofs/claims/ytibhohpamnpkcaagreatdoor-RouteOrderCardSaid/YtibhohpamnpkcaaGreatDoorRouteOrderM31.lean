/- The law's own look: are rules, variables or a URL more than are looked at? -/
import Derived.Test.YtibhohpamnpkcaaGreatDoorRouteOrderM30
import Derived.Test.YtibhohpamnpkcaaGreatDoorRouteOrderM2
import Derived.RegionTactic
import Derived.Test.YtibhohpamnpkcaaGreatDoorRouteOrderM1
import Derived.Deep.AppendLies
import Derived.Deep.AppendSrc
import Derived.Deep.Upon
import Derived.Test.YtibhohpamnpkcaaGreatDoorRouteOrderM28
import Derived.Laws.OwnMore
import Derived.Deep.OwnRows

namespace Go.Proofs.YtibhohpamnpkcaaGreatDoor
open Go.RowKit

def SmallI (x : It) : Prop := x.name.size ≤ 40 ∧ x.value.size ≤ 40
def SmallR (x : Ru) : Prop := x.r.path.size ≤ 40 ∧ x.r.query.size ≤ 40 ∧ x.r.frag.size ≤ 40 ∧ x.items.length ≤ 5 ∧ ∀ i ∈ x.items, SmallI i
def SmallD (d : Dt) : Prop := d.rules.length ≤ 8 ∧ d.apps.length ≤ 8 ∧ ∀ x ∈ d.rules, SmallR x
/-- What came in is no longer than a slice or a text may be. -/
structure RuM (x : Ru) : Prop where
  p : x.r.path.size ≤ 9223372036854775807
  q : x.r.query.size ≤ 9223372036854775807
  f : x.r.frag.size ≤ 9223372036854775807
  n : x.items.length ≤ 9223372036854775807
  i : ∀ i ∈ x.items, i.name.size ≤ 9223372036854775807 ∧ i.value.size ≤ 9223372036854775807
def GRPost (x : Ru) (w : World) (e : Ending) (w' : World) : Prop := (e = .returned (.bool true) ∨ (e = .returned (.bool false) ∧ SmallR x)) ∧ Below w.heap.size w w'
set_option maxHeartbeats 6400000 in
set_option maxRecDepth 100000 in
theorem great_rule (x : Ru) (w : World) (hln : x.r.ilen = x.items.length) (hsl : ItemsSl w x.r.ia x.items) (hm : RuM x) :
    Calls Tryz.prog 23 #[.agg #[.string x.r.path, .string x.r.query, .string x.r.frag, .bool x.r.hp, .bool x.r.hq, .bool x.r.hf, .slice x.r.ia x.r.ilen x.r.icap, .bool x.r.ex, .bool x.r.fold, .bool x.r.dec]] w (GRPost x w) := by
  obtain ⟨⟨f0, f1, f2, f3, f4, f5, f6, ln, f7, f8, f9, f10⟩, items⟩ := x
  obtain ⟨m0, m1, m2, m3, m4⟩ := hm
  dsimp only at hln hsl m0 m1 m2 m3 m4 ⊢
  subst hln
  have HM := Lib.hid m4
  have hal := below_alloc w (.cells #[.string f0, .string f1, .string f2, .bool f3, .bool f4, .bool f5, .slice f6 items.length f7, .bool f8, .bool f9, .bool f10] 62)
  have HS := Lib.hid (fun W (hW : Below w.heap.size w W) => hsl.below hW)
  have HAL := Lib.hid hal
  clear m4 hsl hal
  go_enter Tryz.func23, Tryz.ntmps23
  by_cases g0 : 40 < f0.size
  · have e0 : (40 : Int) < (f0.size : Int) := by omega
    clear g0
    go_wp2_with fail
    go_ret
    exact ⟨.inl rfl, HAL.out⟩
  have e0 : ¬ (40 : Int) < (f0.size : Int) := by omega
  by_cases g1 : 40 < f1.size
  · have e1 : (40 : Int) < (f1.size : Int) := by omega
    clear g1
    go_wp2_with fail
    go_ret
    exact ⟨.inl rfl, HAL.out⟩
  have e1 : ¬ (40 : Int) < (f1.size : Int) := by omega
  by_cases g2 : 40 < f2.size
  · have e2 : (40 : Int) < (f2.size : Int) := by omega
    clear g2
    go_wp2_with fail
    go_ret
    exact ⟨.inl rfl, HAL.out⟩
  have e2 : ¬ (40 : Int) < (f2.size : Int) := by omega
  by_cases g3 : 5 < items.length
  · have e3 : (5 : Int) < (items.length : Int) := by omega
    clear g3
    go_wp2_with fail
    go_ret
    exact ⟨.inl rfl, HAL.out⟩
  have e3 : ¬ (5 : Int) < (items.length : Int) := by omega
  go_wp2_with fail
  clear e0 e1 e2 e3
  go_loopw [30] (fun x wr => ∃ i : Nat, i ≤ items.length ∧ x = .int .i64 i ∧ (∀ v ∈ items.take i, SmallI v) ∧ Below w.heap.size w wr) (fun x _ => items.length - (intOf x).toNat)
  case atStart => exact ⟨0, Nat.zero_le _, rfl, fun v hv => by simp at hv, HAL.out⟩
  case round =>
    obtain ⟨i, hil, rfl, hall, hbr⟩ := hrel
    have HALL := Lib.hid hall
    clear hall HAL
    by_cases hlt : i < items.length
    · have hiI : (i : Int) < (items.length : Int) := by omega
      obtain ⟨x, hx⟩ : ∃ v, items[i]? = some v := ⟨_, List.getElem?_eq_getElem hlt⟩
      obtain ⟨b, off, rfl, hb, d0, d1, d2⟩ := (HS.out wr hbr) i x hx
      have hsm := HM.out _ (List.mem_of_getElem? hx)
      obtain ⟨xn, xv, xh⟩ := x
      dsimp only at d0 d1 d2 hsm
      have hb2 := Bt hbr (below_alloc wr (.cells #[.string xn, .string xv, .bool xh] 102))
      have HNEXT := Lib.hid (fun hp => take_next (P := SmallI) hx hp HALL.out)
      clear hx
      by_cases k1 : 40 < xn.size
      · have e2 : (40 : Int) < (xn.size : Int) := by omega
        clear k1 HNEXT
        go_wp2_with fail
        go_ret
        exact ⟨.inl rfl, hb2⟩
      have e2 : ¬ (40 : Int) < (xn.size : Int) := by omega
      by_cases k2 : 40 < xv.size
      · have e3 : (40 : Int) < (xv.size : Int) := by omega
        clear k1 k2 HNEXT
        go_wp2_with fail
        go_ret
        exact ⟨.inl rfl, hb2⟩
      have e3 : ¬ (40 : Int) < (xv.size : Int) := by omega
      have HX := Lib.hid (HNEXT.out ⟨by show xn.size ≤ 40; omega, by show xv.size ≤ 40; omega⟩)
      clear HNEXT k1 k2
      go_wp2_with fail
      go_roundw
      case rel => exact ⟨i + 1, by omega, by go_num, HX.out, hb2⟩
      case measure => simp [intOf]; omega
    · obtain rfl : i = items.length := by omega
      go_wp2_with fail
      go_ret
      exact ⟨.inr ⟨rfl, by show f0.size ≤ 40; omega, by show f1.size ≤ 40; omega, by show f2.size ≤ 40; omega, by show items.length ≤ 5; omega, by have := HALL.out; rwa [List.take_length] at this⟩, hbr⟩
/-- An association's details lie at a slice; what came in is not longer than anything may be. -/
structure DetsM (w : World) (da : Option Addr) (ds : List Dt) : Prop where
  sl : DetsSl w da ds
  len : ds.length ≤ 9223372036854775807
  a : ∀ d ∈ ds, d.apps.length ≤ 9223372036854775807
  r : ∀ d ∈ ds, d.rules.length ≤ 9223372036854775807
  x : ∀ d ∈ ds, ∀ x ∈ d.rules, RuM x
theorem DetsM.below {w w' : World} {da : Option Addr} {ds : List Dt} (h : DetsM w da ds) (hb : Below w.heap.size w w') : DetsM w' da ds := ⟨h.sl.below hb, h.len, h.a, h.r, h.x⟩
def GAPost (ds : List Dt) (vars : List SVar) (u : Ur) (w : World) (e : Ending) (w' : World) : Prop := (e = .returned (.bool true) ∨ (e = .returned (.bool false) ∧ (u.path.size ≤ 40 ∧ u.query.size ≤ 40 ∧ u.frag.size ≤ 40 ∧ vars.length ≤ 5 ∧ ds.length ≤ 8) ∧ (∀ v ∈ vars, SmallV v) ∧ ∀ d ∈ ds, SmallD d)) ∧ Below w.heap.size w w'
set_option maxHeartbeats 12800000 in
set_option maxRecDepth 100000 in
theorem great_assoc (da : Option Addr) (dcap : Nat) (ds : List Dt) (u : Ur) (av : Option Addr) (vcap : Nat) (vars : List SVar) (w : World) (hv : VarsSl w av vars) (hvl : vars.length ≤ maxLen) (hvs : ∀ v ∈ vars, v.1.size ≤ maxLen ∧ v.2.length ≤ maxLen) (hd : DetsM w da ds) (hu : u.path.size ≤ maxLen ∧ u.query.size ≤ maxLen ∧ u.frag.size ≤ maxLen) :
    Calls Tryz.prog 22 #[.agg #[.slice da ds.length dcap, .slice av vars.length vcap], .agg #[.string u.scheme, .int .i64 u.hk, .string u.host, .int .i64 u.port, .string u.path, .string u.query, .string u.frag, .bool u.hq, .bool u.hf]] w (GAPost ds vars u w) := by
  unfold maxLen at hvl hvs hu
  obtain ⟨z0, z1, z2⟩ := hu
  have z3 := hd.len
  have HVS := Lib.hid hvs
  have HV := Lib.hid (fun W (hW : Below w.heap.size w W) => hv.below hW)
  have HD := Lib.hid (fun W (hW : Below w.heap.size w W) => hd.below hW)
  have hat : BlkAt ((w.alloc (.cells #[.slice da ds.length dcap, .slice av vars.length vcap] 55)).alloc (.cells (urA u) 59)) w.heap.size 55 #[.slice da ds.length dcap, .slice av vars.length vcap] := (BlkAt.new _ _ _).alloc _
  have hal := below_alloc2 w (.cells #[.slice da ds.length dcap, .slice av vars.length vcap] 55) (.cells (urA u) 59)
  unfold urA at hat hal
  obtain ⟨u0, u1, u2, u3, u4, u5, u6, u7, u8⟩ := u
  dsimp only at hat hal z0 z1 z2 ⊢
  have HAT := Lib.hid hat
  have HAL := Lib.hid hal
  clear hv hd hvs hat hal
  go_enter Tryz.func22, Tryz.ntmps22
  by_cases g0 : 40 < u4.size
  · have e0 : (40 : Int) < (u4.size : Int) := by omega
    clear g0
    go_wp2_with fail
    go_ret
    exact ⟨.inl rfl, HAL.out⟩
  have e0 : ¬ (40 : Int) < (u4.size : Int) := by omega
  by_cases g1 : 40 < u5.size
  · have e1 : (40 : Int) < (u5.size : Int) := by omega
    clear g1
    go_wp2_with fail
    go_ret
    exact ⟨.inl rfl, HAL.out⟩
  have e1 : ¬ (40 : Int) < (u5.size : Int) := by omega
  by_cases g2 : 40 < u6.size
  · have e2 : (40 : Int) < (u6.size : Int) := by omega
    clear g2
    go_wp2_with fail
    go_ret
    exact ⟨.inl rfl, HAL.out⟩
  have e2 : ¬ (40 : Int) < (u6.size : Int) := by omega
  by_cases g3 : 5 < vars.length
  · have e3 : (5 : Int) < (vars.length : Int) := by omega
    clear g3
    go_wp2_with fail
    go_ret
    exact ⟨.inl rfl, HAL.out⟩
  have e3 : ¬ (5 : Int) < (vars.length : Int) := by omega
  by_cases g4 : 8 < ds.length
  · have e4 : (8 : Int) < (ds.length : Int) := by omega
    clear g4
    go_wp2_with fail
    go_ret
    exact ⟨.inl rfl, HAL.out⟩
  have e4 : ¬ (8 : Int) < (ds.length : Int) := by omega
  have HUU := Lib.hid (show u4.size ≤ 40 ∧ u5.size ≤ 40 ∧ u6.size ≤ 40 ∧ vars.length ≤ 5 ∧ ds.length ≤ 8 by omega)
  go_wp2_with fail
  clear e0 e1 e2 e3 e4 z0 z1 z2 z3
  go_loopw [44] (fun x wr => ∃ i : Nat, i ≤ vars.length ∧ x = .int .i64 i ∧ (∀ v ∈ vars.take i, SmallV v) ∧ Below w.heap.size w wr ∧ BlkAt wr w.heap.size 55 #[.slice da ds.length dcap, .slice av vars.length vcap]) (fun x _ => vars.length - (intOf x).toNat)
  case atStart => exact ⟨0, Nat.zero_le _, rfl, fun v hv => by simp at hv, HAL.out, HAT.out⟩
  case round =>
    obtain ⟨i, hil, rfl, hall, hbr, hat⟩ := hrel
    have HALL := Lib.hid hall
    have HAT2 := Lib.hid hat
    clear hall HAT HAL hat
    by_cases hlt : i < vars.length
    · have hiI : (i : Int) < (vars.length : Int) := by omega
      obtain ⟨⟨nm, vals⟩, hx⟩ : ∃ v, vars[i]? = some v := ⟨_, List.getElem?_eq_getElem hlt⟩
      obtain ⟨us, h1, h2, h3⟩ := HV.out _ hbr
      obtain ⟨u, hu, hsv⟩ := h3 i _ hx
      obtain ⟨b, off, ha, hbw, c0, c1⟩ := h1 i _ hu
      have hsm := HVS.out _ (List.mem_of_getElem? hx)
      obtain ⟨pa, pcap, rfl, hpc, hpl⟩ := hsv
      simp only at c0 c1 hsm hpl hpc
      have hal : Below wr.heap.size wr (wr.alloc (.cells #[.string nm, .slice pa vals.length pcap] 100)) := (Below.refl _ _).alloc (Nat.le_refl _) _
      have hb2 := Bt hbr hal
      have q0 := cell_of_row _ _ 0 _ _ _ (heap_alloc_new wr (.cells #[.string nm, .slice pa vals.length pcap] 100))
      have q1 := cell_of_row _ _ 1 _ _ _ (heap_alloc_new wr (.cells #[.string nm, .slice pa vals.length pcap] 100))
      have HNEXT := Lib.hid (fun hp => take_next (P := SmallV) hx hp HALL.out)
      have HAT3 := Lib.hid (HAT2.out.below hal)
      have HPL := Lib.hid (fun (i : Nat) s (hs : vals[i]? = some s) => by
        obtain ⟨b2, off2, e2, hb, hc⟩ := hpl i s hs
        exact (show ∃ b2 off2, pa = some ⟨b2, off2, none⟩ ∧ b2 < (wr.alloc (.cells #[.string nm, .slice pa vals.length pcap] 100)).heap.size ∧ (wr.alloc (.cells #[.string nm, .slice pa vals.length pcap] 100)).cell? ⟨b2, off2 + i, none⟩ = some (.string s) from ⟨b2, off2, e2, Nat.lt_of_lt_of_le hb hal.size, (hal.cell (p := ⟨b2, off2 + i, none⟩) hb).trans hc⟩))
      subst ha
      clear h1 h2 h3 hu hx hpl hal HALL hbr HAT2
      by_cases g1 : 4 < vals.length
      · have e2 : (4 : Int) < (vals.length : Int) := by omega
        clear g1 HNEXT HPL
        go_wp2_with fail
        go_ret
        exact ⟨.inl rfl, hb2⟩
      have e2 : ¬ (4 : Int) < (vals.length : Int) := by omega
      by_cases g2 : 100 < nm.size
      · have e3 : (100 : Int) < (nm.size : Int) := by omega
        clear g1 g2 HNEXT HPL
        go_wp2_with fail
        go_ret
        exact ⟨.inl rfl, hb2⟩
      have e3 : ¬ (100 : Int) < (nm.size : Int) := by omega
      go_wp2_with fail
      generalize wr.alloc (.cells #[.string nm, .slice pa vals.length pcap] 100) = w2 at *
      clear c0 c1 q0 q1 e2 e3
      go_loopw [61] (fun x wr => ∃ j : Nat, j ≤ vals.length ∧ x = .int .i64 j ∧ (∀ s ∈ vals.take j, s.size ≤ 20) ∧ w2 = wr) (fun x _ => vals.length - (intOf x).toNat)
      case atStart => exact ⟨0, Nat.zero_le _, rfl, fun v hv => by simp at hv, by trivial⟩
      case round =>
        obtain ⟨j, hjl, rfl, hall, rfl⟩ := hrel
        have HA := Lib.hid hall
        clear hall
        by_cases hjt : j < vals.length
        · have hjI : (j : Int) < (vals.length : Int) := by omega
          obtain ⟨s, hs⟩ : ∃ s, vals[j]? = some s := ⟨_, List.getElem?_eq_getElem hjt⟩
          obtain ⟨b2, off2, rfl, hbw2, hce⟩ := HPL.out j s hs
          have HN2 := Lib.hid (fun hp => take_next (P := fun s : ByteArray => s.size ≤ 20) hs hp HA.out)
          clear hs HA
          by_cases g3 : 20 < s.size
          · have e4 : (20 : Int) < (s.size : Int) := by omega
            clear g3 HN2 HNEXT
            go_wp2_with fail
            go_ret
            exact ⟨.inl rfl, hb2⟩
          · have e4 : ¬ (20 : Int) < (s.size : Int) := by omega
            have HX := Lib.hid (HN2.out (by omega))
            clear g3 HN2
            go_wp2_with fail
            go_roundw
            case rel => exact ⟨j + 1, by omega, by go_num, HX.out, by trivial⟩
            case measure => simp [intOf]; omega
        · obtain rfl : j = vals.length := by omega
          have HX := Lib.hid (HNEXT.out ⟨by show vals.length ≤ 4; omega, by show nm.size ≤ 100; omega, by have := HA.out; rwa [List.take_length] at this⟩)
          clear HNEXT HA HPL
          go_wp2_with fail
          go_roundw
          case rel => exact ⟨i + 1, by omega, by go_num, HX.out, hb2, HAT3.out⟩
          case measure => simp [intOf]; omega
    · obtain rfl : i = vars.length := by omega
      have hA := HALL.out
      rw [List.take_length] at hA
      have HVOK := Lib.hid hA
      have c0 := HAT2.out.cell 0 _ rfl
      have HB := Lib.hid hbr
      clear hA HALL hbr
      go_wp2_with fail
      clear c0
      go_loopw [73] (fun x wq => ∃ i : Nat, i ≤ ds.length ∧ x = .int .i64 i ∧ (∀ v ∈ ds.take i, SmallD v) ∧ Below w.heap.size w wq) (fun x _ => ds.length - (intOf x).toNat)
      case atStart => exact ⟨0, Nat.zero_le _, rfl, fun v hv => by simp at hv, HB.out⟩
      case round =>
        obtain ⟨i, hil, rfl, hall, hbr⟩ := hrel
        have HALL := Lib.hid hall
        clear hall HB
        by_cases hlt : i < ds.length
        · have hiI : (i : Int) < (ds.length : Int) := by omega
          obtain ⟨d, hx⟩ : ∃ d, ds[i]? = some d := ⟨_, List.getElem?_eq_getElem hlt⟩
          have hdm := HD.out _ hbr
          obtain ⟨b, off, uu, rfl, hb, d0, d1, hdv⟩ := hdm.sl.cells hx
          obtain ⟨⟨aa, ac, ea, hap⟩, ⟨ra, rc, er, hru⟩⟩ := hdv
          obtain ⟨v0, v1⟩ := uu
          dsimp only at ea er d0 d1
          subst ea er
          have ml1 := hdm.a d (List.mem_of_getElem? hx)
          have ml2 := hdm.r d (List.mem_of_getElem? hx)
          have MR := Lib.hid (hdm.x d (List.mem_of_getElem? hx))
          have hal := below_alloc wr (.cells #[.slice aa d.apps.length ac, .slice ra d.rules.length rc] 70)
          have hb2 := Bt hbr hal
          have q := BlkAt.new wr #[.slice aa d.apps.length ac, .slice ra d.rules.length rc] 70
          have q0 := q.cell 0 _ rfl
          have q1 := q.cell 1 _ rfl
          have HRU := Lib.hid (hru.below hal)
          have HNEXT := Lib.hid (fun hp => take_next (P := SmallD) hx hp HALL.out)
          clear hx hap hru hal hbr HALL hdm q
          by_cases g1 : 8 < d.rules.length
          · have e2 : (8 : Int) < (d.rules.length : Int) := by omega
            clear g1 HNEXT
            go_wp2_with fail
            go_ret
            exact ⟨.inl rfl, hb2⟩
          have e2 : ¬ (8 : Int) < (d.rules.length : Int) := by omega
          by_cases g2 : 8 < d.apps.length
          · have e3 : (8 : Int) < (d.apps.length : Int) := by omega
            clear g1 g2 HNEXT
            go_wp2_with fail
            go_ret
            exact ⟨.inl rfl, hb2⟩
          have e3 : ¬ (8 : Int) < (d.apps.length : Int) := by omega
          go_wp2_with fail
          generalize wr.alloc (.cells #[.slice aa d.apps.length ac, .slice ra d.rules.length rc] 70) = w2 at *
          clear d0 d1 q0 q1 e2 e3
          go_loopw [90] (fun x wr => ∃ j : Nat, j ≤ d.rules.length ∧ x = .int .i64 j ∧ (∀ s ∈ d.rules.take j, SmallR s) ∧ Below w2.heap.size w2 wr) (fun x _ => d.rules.length - (intOf x).toNat)
          case atStart => exact ⟨0, Nat.zero_le _, rfl, fun v hv => by simp at hv, Below.refl _ _⟩
          case round =>
            obtain ⟨j, hjl, rfl, hall, hbw⟩ := hrel
            have HA := Lib.hid hall
            clear hall
            by_cases hjt : j < d.rules.length
            · have hjI : (j : Int) < (d.rules.length : Int) := by omega
              obtain ⟨x, hs⟩ : ∃ s, d.rules[j]? = some s := ⟨_, List.getElem?_eq_getElem hjt⟩
              obtain ⟨b2, off2, rfl, hbw2, dd, hxn, hxs⟩ := (HRU.out.below hbw) j x hs
              have d0 := dd 0 _ rfl
              have d1 := dd 1 _ rfl
              have d2 := dd 2 _ rfl
              have d3 := dd 3 _ rfl
              have d4 := dd 4 _ rfl
              have d5 := dd 5 _ rfl
              have d6 := dd 6 _ rfl
              have d7 := dd 7 _ rfl
              have d8 := dd 8 _ rfl
              have d9 := dd 9 _ rfl
              rw [Nat.add_zero] at d0
              have hal2 := below_alloc wr (.cells (rlC x.r).toArray 62)
              have CG := Lib.hid (great_rule x _ hxn (hxs.below hal2) (MR.out x (List.mem_of_getElem? hs)))
              have HN2 := Lib.hid (fun hp => take_next (P := SmallR) hs hp HA.out)
              have hq := Bt hbw hal2
              have hq2 := Bt hb2 hq
              unfold rlC at CG hq hq2
              unfold GRPost at CG
              generalize hsx : SmallR x = SX at *
              obtain ⟨⟨f0, f1, f2, f3, f4, f5, f6, ln, f7, f8, f9, f10⟩, items⟩ := x
              dsimp only at d0 d1 d2 d3 d4 d5 d6 d7 d8 d9 CG hq hq2
              have HQ := Lib.hid hq
              have HQ2 := Lib.hid hq2
              clear hs HA dd hxs hal2 hq hq2 hsx hxn
              go_wp2_with fail
              refine CG.out.mono ?_
              rintro e w3 ⟨hor, hb3⟩
              have hw3 := Bt HQ.out hb3
              have h03 := Bt HQ2.out hb3
              rcases hor with rfl | ⟨rfl, hsx⟩
              · clear HN2 HNEXT
                go_wp2_with fail
                go_ret
                exact ⟨.inl rfl, h03⟩
              · have HX := Lib.hid (HN2.out hsx)
                clear HN2 hsx
                go_wp2_with fail
                go_roundw
                case rel => exact ⟨j + 1, by omega, by go_num, HX.out, hw3⟩
                case measure => simp [intOf]; omega
            · obtain rfl : j = d.rules.length := by omega
              have HX := Lib.hid (HNEXT.out ⟨by omega, by omega, by have := HA.out; rwa [List.take_length] at this⟩)
              have hq := Bt hb2 hbw
              clear HNEXT HA
              go_wp2_with fail
              go_roundw
              case rel => exact ⟨i + 1, by omega, by go_num, HX.out, hq⟩
              case measure => simp [intOf]; omega
        · obtain rfl : i = ds.length := by omega
          go_wp2_with fail
          go_ret
          exact ⟨.inr ⟨rfl, HUU.out, HVOK.out, by have := HALL.out; rwa [List.take_length] at this⟩, hbr⟩
end Go.Proofs.YtibhohpamnpkcaaGreatDoor

/- A region that draws its order, by what holds of what has come up: one step for each operation, whatever came before it. -/
namespace Go.Proofs.YtibhohpamnpkcaaGreatDoor
open Go.RowKit

section
variable {P : Program} {md : Region.Mode} {ops : Array Oper} {Q : Exit → Act → World → Prop}
theorem getD_tf {l : Array Bool} {j : Nat} (h : l.getD j false = true) : l.getD j true = true := by
  by_cases hj : j < l.size
  · simp [Array.getD, hj] at h ⊢; exact h
  · simp [Array.getD, hj] at h
theorem getD_ft {l : Array Bool} {j : Nat} (hj : j < l.size) (h : l.getD j true = true) : l.getD j false = true := by
  simp [Array.getD, hj] at h ⊢; exact h
theorem getD_setT (l : Array Bool) (i j : Nat) : (l.setIfInBounds i true).getD j true = if j = i then true else l.getD j true := by
  by_cases hji : j = i
  · subst hji
    rw [if_pos rfl]
    by_cases hj : j < l.size
    · simp [Array.getD, hj]
    · simp [Array.getD, hj]
  · rw [if_neg hji, getD_set_ne true (fun e => hji e.symm)]
/-- Each operation waits for such ones alone as stand ahead of it. -/
def AheadB (ops : Array Oper) : Bool := (List.range ops.size).all fun i => ((ops[i]?).map fun o => o.after.all fun e => decide (e.on < i)).getD true
theorem ahead_spec (h : AheadB ops = true) {i : Nat} {o : Oper} (ho : ops[i]? = some o) : ∀ e ∈ o.after, e.on < i := by
  intro e he
  unfold AheadB at h
  rw [List.all_eq_true] at h
  have hi : i < ops.size := (Array.getElem?_eq_some_iff.1 ho).1
  have := h i (by simpa using hi)
  rw [ho] at this
  simp only [Option.map_some, Option.getD_some] at this
  rw [Array.all_eq_true_iff_forall_mem] at this
  exact of_decide_eq_true (this e he)
theorem ready_ne (hA : AheadB ops = true) {listed : Array Bool} (hs : listed.size = ops.size) (h : Region.ready md ops listed = []) : ∀ i, i < ops.size → listed.getD i true = true := by
  intro i
  induction i using Nat.strongRecOn with
  | _ i ih =>
    intro hi
    cases hc : listed.getD i true with
    | true => rfl
    | false =>
      have hm : i ∈ Region.ready md ops listed := by
        rw [mem_ready]
        refine ⟨hc, ops[i], Array.getElem?_eq_getElem hi, fun e he _ => ?_⟩
        have hlt := ahead_spec hA (Array.getElem?_eq_getElem hi) e he
        exact getD_ft (by omega) (ih e.on hlt (by omega))
      rw [h] at hm
      cases hm
theorem count_set {l : List Bool} {i : Nat} (h : l[i]? = some false) : (l.set i true).count false + 1 = l.count false := by
  induction l generalizing i with
  | nil => simp at h
  | cons b l ih =>
    cases i with
    | zero =>
      simp at h; subst h
      simp [List.count_cons]
    | succ i =>
      simp at h
      simp only [List.set_cons_succ, List.count_cons]
      have := ih h
      omega
theorem wpAny_inv (hA : AheadB ops = true) (I : Array Bool → Act → World → Prop)
    (hstep : ∀ (listed : Array Bool) a w i o, I listed a w → listed.size = ops.size → ops[i]? = some o → listed.getD i true = false → (∀ e ∈ o.after, Region.binds md e = true → listed.getD e.on true = true) → wpOp P ops Q i (fun a' w' => I (listed.setIfInBounds i true) a' w') a w)
    (hend : ∀ (listed : Array Bool) a w, I listed a w → listed.size = ops.size → (∀ i, i < ops.size → listed.getD i true = true) → Q .normal a w) :
    ∀ (fuel : Nat) (listed : Array Bool) (a : Act) (w : World), I listed a w → listed.size = ops.size → listed.toList.count false ≤ fuel → wpAny P md ops Q fuel listed a w := by
  intro fuel
  induction fuel with
  | zero =>
    intro listed a w hI hs hc
    have hall : ∀ i, i < ops.size → listed.getD i true = true := by
      intro i hi
      cases h : listed.getD i true with
      | true => rfl
      | false =>
        have hm : false ∈ listed.toList := by
          have hil : i < listed.size := by omega
          simp [Array.getD, hil] at h
          rw [← h]
          exact Array.getElem_mem_toList hil
        have := List.count_pos_iff.2 hm
        omega
    refine ⟨?_, hend listed a w hI hs hall⟩
    cases hr : Region.ready md ops listed with
    | nil => rfl
    | cons j js =>
      have hj : j ∈ Region.ready md ops listed := by rw [hr]; exact List.mem_cons_self
      obtain ⟨h0, o, ho, _⟩ := mem_ready.1 hj
      have := hall j (Array.getElem?_eq_some_iff.1 ho).1
      rw [h0] at this; cases this
  | succ fuel ih =>
    intro listed a w hI hs hc
    refine ⟨fun h => hend listed a w hI hs (ready_ne hA hs h), fun i hi => ?_⟩
    obtain ⟨h0, o, ho, hall⟩ := mem_ready.1 hi
    have hil : i < listed.size := by
      have := (Array.getElem?_eq_some_iff.1 ho).1
      omega
    refine wpOp_mono (fun a' w' h => ih _ a' w' h (by simp [hs]) ?_) (hstep listed a w i o hI hs ho h0 (fun e he hb => getD_tf (hall e he hb)))
    have h1 : listed.toList[i]? = some false := by
      simp [Array.getD, hil] at h0
      rw [Array.getElem?_toList, Array.getElem?_eq_getElem hil, h0]
    have := count_set h1
    rw [Array.toList_setIfInBounds]
    omega
theorem none_listed {n i : Nat} (h : (Array.replicate n false).getD i true = true) : n ≤ i := by
  apply Nat.le_of_not_lt
  intro hi
  simp [Array.getD, hi] at h
/-- What a frame holds at a slot. -/
def valA (a : Act) (t : Nat) : Value := a.tmps.getD t undef
theorem valA_put (a : Act) (dst : Option Tmp) (v : Value) (t : Nat) (h : ∀ d, dst = some d → d < a.tmps.size) : valA (a.put dst v) t = if dst = some t then v else valA a t := by
  cases dst with
  | none => rw [if_neg (by simp)]; rfl
  | some d =>
    have hd := h d rfl
    unfold valA Act.put
    by_cases ht : d = t
    · subst ht
      rw [if_pos rfl]
      simp [Array.getD, hd]
    · rw [if_neg (by simpa using ht)]
      by_cases hts : t < a.tmps.size
      · simp [Array.getD, hts, Array.getElem_setIfInBounds_ne hts ht]
      · simp [Array.getD, hts]
/-- A frame that has its slots as another one has, but those that were written. -/
structure Frm (ops : Array Oper) (a0 : Act) (L : Nat → Bool) (a : Act) : Prop where
  defers : a.defers = a0.defers
  size : a.tmps.size = a0.tmps.size
  old : ∀ t, (∀ i o, ops[i]? = some o → L i = true → o.dst ≠ some t) → valA a t = valA a0 t
theorem Frm.put {a0 a : Act} {L : Nat → Bool} (h : Frm ops a0 L a) {i : Nat} {o : Oper} (ho : ops[i]? = some o) (hd : ∀ d, o.dst = some d → d < a0.tmps.size) (v : Value) : Frm ops a0 (fun j => if j = i then true else L j) (a.put o.dst v) := by
  refine ⟨?_, ?_, fun t ht => ?_⟩
  · rw [← h.defers]; cases o.dst <;> rfl
  · rw [← h.size]; cases o.dst <;> simp [Act.put]
  · rw [valA_put _ _ _ _ (fun d e => by rw [h.size]; exact hd d e), if_neg (by
      have := ht i o ho (by simp)
      exact this)]
    exact h.old t fun j o' ho' hj => ht j o' ho' (by simp [hj])
/-- The slots that a region writes lie in the frame; no operation has a guard. -/
def PlainB (ops : Array Oper) (n : Nat) : Bool := ops.all fun o => o.guard.isNone && ((o.dst).map fun d => decide (d < n)).getD true
theorem plain_spec {n : Nat} (h : PlainB ops n = true) {i : Nat} {o : Oper} (ho : ops[i]? = some o) : o.guard = none ∧ ∀ d, o.dst = some d → d < n := by
  unfold PlainB at h
  rw [Array.all_eq_true_iff_forall_mem] at h
  have := h o (Array.mem_of_getElem? ho)
  rw [Bool.and_eq_true] at this
  refine ⟨by simpa using this.1, fun d hd => ?_⟩
  have h2 := this.2
  rw [hd] at h2
  simpa using h2
/-- A region that draws its order: D says what holds when such operations have come up (L), of what the slots hold, in a world. -/
theorem region_inv {id : Nat} {a0 : Act} {w0 : World} (hm : P.follows .mixedOrders = true) (hA : AheadB ops = true) (hPl : PlainB ops a0.tmps.size = true) (D : (Nat → Bool) → (Nat → Value) → World → Prop)
    (h0 : D (fun j => (Array.replicate ops.size false).getD j true) (valA a0) w0.drew)
    (hstep : ∀ (L : Nat → Bool) (a : Act) (w : World) (i : Nat) (o : Oper), D L (valA a) w → Frm ops a0 L a → ops[i]? = some o → L i = false → (∀ e ∈ o.after, Region.binds .any e = true → L e.on = true) →
      ∀ K : Act → World → Prop, (∀ v w', D (fun j => if j = i then true else L j) (fun t => if o.dst = some t then v else valA a t) w' → K (a.put o.dst v) w') → Oper.wp P o a w K Q)
    (hend : ∀ (L : Nat → Bool) (a : Act) (w : World), (∀ i, i < ops.size → L i = true) → D L (valA a) w → Frm ops a0 L a → Q .normal a w) : (Code.region id ops true).wp P Q a0 w0 := by
  refine wp_region_any hm ?_
  refine wpAny_inv hA (fun listed a w => D (fun j => listed.getD j true) (valA a) w ∧ Frm ops a0 (fun j => listed.getD j true) a) ?_ ?_ _ _ _ _ ⟨h0, rfl, rfl, fun t _ => rfl⟩ (by simp) (by simp)
  · intro listed a w i o ⟨hD, hF⟩ hs ho hi haft
    have hp := plain_spec hPl ho
    unfold wpOp
    rw [ho]
    have hw : Region.wanted o (yielded ops a.tmps) = true := by simp [Region.wanted, hp.1]
    simp only [hw, if_true]
    refine .inl (hstep (fun j => listed.getD j true) a w i o hD hF ho hi haft _ ?_)
    intro v w' hD'
    have hfun : (fun j => (listed.setIfInBounds i true).getD j true) = fun j => if j = i then true else listed.getD j true := funext (getD_setT listed i)
    have hval : valA (a.put o.dst v) = fun t => if o.dst = some t then v else valA a t := funext fun t => valA_put _ _ _ _ (fun d e => by rw [hF.size]; exact hp.2 d e)
    refine ⟨?_, ?_⟩
    · rw [hfun, hval]; exact hD'
    · rw [hfun]; exact hF.put ho hp.2 v
  · intro listed a w ⟨hD, hF⟩ hs hall
    exact hend _ a w hall hD hF
/-- A frame, written out: another one, with these slots anew. -/
theorem Frm.out {a0 a : Act} {L : Nat → Bool} (h : Frm ops a0 L a) (ds : List Nat) (hds : ∀ (i : Nat) (o : Oper), ops[i]? = some o → ∀ d, o.dst = some d → d ∈ ds) : a = ⟨ds.foldl (fun arr d => arr.setIfInBounds d (valA a d)) a0.tmps, a0.defers⟩ := by
  have key : ∀ (ds : List Nat) (arr : Array Value), (ds.foldl (fun arr d => arr.setIfInBounds d (valA a d)) arr).size = arr.size ∧ ∀ t, t < arr.size → (ds.foldl (fun arr d => arr.setIfInBounds d (valA a d)) arr).getD t undef = if t ∈ ds then valA a t else arr.getD t undef := by
    intro ds
    induction ds with
    | nil => intro arr; exact ⟨rfl, fun t _ => by simp⟩
    | cons d ds ih =>
      intro arr
      rw [List.foldl_cons]
      obtain ⟨h1, h2⟩ := ih (arr.setIfInBounds d (valA a d))
      refine ⟨by rw [h1]; simp, fun t ht => ?_⟩
      rw [h2 t (by simpa using ht)]
      by_cases htd : t ∈ ds
      · rw [if_pos htd, if_pos (List.mem_cons_of_mem _ htd)]
      · rw [if_neg htd]
        by_cases he : t = d
        · subst he
          rw [if_pos List.mem_cons_self]
          simp [Array.getD, ht]
        · rw [if_neg (by simp [he, htd])]
          simp [Array.getD, ht, Array.getElem_setIfInBounds_ne ht (Ne.symm he)]
  cases a with
  | mk tm df =>
    have hd : df = a0.defers := h.defers
    subst hd
    congr 1
    obtain ⟨h1, h2⟩ := key ds a0.tmps
    apply Array.ext
    · rw [h1]; exact h.size
    · intro t ht1 ht2
      have ht : t < a0.tmps.size := by rw [h1] at ht2; exact ht2
      have e2 := h2 t ht
      have e1 : tm[t] = tm.getD t undef := by simp [Array.getD, ht1]
      have e3 : (ds.foldl (fun arr d => arr.setIfInBounds d (valA ⟨tm, a0.defers⟩ d)) a0.tmps)[t] = (ds.foldl (fun arr d => arr.setIfInBounds d (valA ⟨tm, a0.defers⟩ d)) a0.tmps).getD t undef := by simp [Array.getD, ht2]
      rw [e1, e3, e2]
      by_cases hm : t ∈ ds
      · rw [if_pos hm]; rfl
      · rw [if_neg hm]
        exact h.old t fun i o ho _ hdst => hm (hds i o ho t hdst)
/-- The slots that a region writes. -/
def DstsB (ops : Array Oper) (ds : List Nat) : Bool := ops.all fun o => (o.dst.map fun d => ds.contains d).getD true
theorem Frm.outB {a0 a : Act} {L : Nat → Bool} (h : Frm ops a0 L a) (ds : List Nat) (hb : DstsB ops ds = true) : a = ⟨ds.foldl (fun arr d => arr.setIfInBounds d (valA a d)) a0.tmps, a0.defers⟩ := by
  refine h.out ds fun i o ho d hd => ?_
  unfold DstsB at hb
  rw [Array.all_eq_true_iff_forall_mem] at hb
  have := hb o (Array.mem_of_getElem? ho)
  rw [hd] at this
  simpa using this
end
end Go.Proofs.YtibhohpamnpkcaaGreatDoor

/- append of any slice of the same kind, as one step of a region that draws its order. -/
namespace Go.Proofs.YtibhohpamnpkcaaGreatDoor
open Go.RowKit

theorem own_shape {w : World} {base n size : Nat} {e : TypeId} {v : Value} {xs : List Value} (h : w.ownsRow base e size v n xs) : ∃ a c, v = .slice a n c ∧ n ≤ c ∧ (a = none → n = 0 ∧ c = 0) := by
  rcases h.2 with ⟨e0, e1⟩ | ⟨g, cap, cur, e0, _, _, hc, _⟩
  · exact ⟨none, 0, by rw [e0, e1], by omega, fun _ => ⟨e1, rfl⟩⟩
  · exact ⟨_, _, e0, hc, fun h => by cases h⟩
theorem step_app_any {w : World} {ops : Array Oper} {o : Oper} {a : Act} {K : Act → World → Prop} {Q : Exit → Act → World → Prop} {E : Prop} (hgd : o.guard = none) (s x : Operand) (t : TypeId) (ho : o.op = .call { callee := .builtin .append, args := #[s, x], argTypes := #[t, t] })
    (base : Nat) (e : TypeId) (i : TypeInfo) (z : Value) (size bytes : Nat) (ht : Tryz.prog.underlying t = some (.slice e)) (hi : Tryz.prog.info? e = some i) (hz : i.zero = some z) (hsize : i.size = size) (hby : i.bytes = bytes) (hzs : z.cells.size = size) (hsz : 0 < size)
    (v : Value) (n : Nat) (xs : List Value) (hs : a.eval s = v) (hown : w.ownsRow base e size v n xs) (pa : Option Addr) (k c : Nat) (news : List Value) (hx : a.eval x = .slice pa k c) (hl : news.length = k * size)
    (hnews : ∀ j u, news[j]? = some u → ∃ ad, pa = some ad ∧ w.cell? (ad.add j) = some u) (h1 : ∀ u ∈ news, u.oneCell' = true) (hb1 : n + k ≤ 100000) (hb2 : bytes ≤ 1000) (hbase : base ≤ w.heap.size)
    (h : ∀ a' c' w', w'.ownsRow base e size (.slice a' (n + k) c') (n + k) (xs ++ news) → w.grownBy w' v.ownBlock → (∀ g, (Value.slice a' (n + k) c').ownBlock = some g → v.ownBlock = some g ∨ w.heap.size ≤ g) → K (a.put o.dst (.slice a' (n + k) c')) w') :
    if Region.wanted o (yielded ops a.tmps) = true then Oper.wp Tryz.prog o a w K Q else E := by
  by_cases hk : k = 0
  · subst hk
    have hw : Region.wanted o (yielded ops a.tmps) = true := by simp [Region.wanted, hgd]
    rw [if_pos hw]
    obtain rfl : news = [] := List.eq_nil_of_length_eq_zero (by omega)
    obtain ⟨va, vc, rfl, hvc, hvn⟩ := own_shape hown
    have hsrc : Src Tryz.prog i.size t (.slice pa 0 c) 0 [] w := by
      cases pa with
      | none => exact Src.ofNil w ht c
      | some ad => exact Src.ofSlice w ht ad 0 c [] (by simp) (by simp) (by simp)
    have hrun : (Builtin.append_ #[t, t] o.type #[.slice va n vc, .slice pa 0 c]).run Tryz.prog w = .ok (.slice va n vc) w := run_append_nothing w _ _ _ e i ht hi va n vc hvc _ hsrc
    unfold Oper.wp
    simp [execOp, ho, resolve, invoke, builtin, hs, hx, hrun, Result.andThen]
    exact h va vc w (by simpa using hown) (below_grownBy (Below.refl _ _) _) (fun g hg => .inl hg)
  · obtain ⟨u, hu⟩ : ∃ u, news[0]? = some u := ⟨_, List.getElem?_eq_getElem (by rw [hl]; exact Nat.mul_pos (by omega) hsz)⟩
    obtain ⟨ad, rfl, _⟩ := hnews 0 u hu
    refine step_append_lies (P := Tryz.prog) w hgd s x t ho base e i z size bytes ht hi hz hsize hby hzs hsz v n xs hs hown ad k c news hx hl (fun j u hj => by obtain ⟨ad', e', h'⟩ := hnews j u hj; cases e'; exact h') h1 (by omega) (by unfold maxLen; omega) ?_ hbase _ rfl ?_
    · have : (n + k) * bytes ≤ 100000 * 1000 := Nat.mul_le_mul hb1 hb2
      omega
    · intro g c4 w4 h2 h3 h4 h5
      refine h _ _ w4 h2 h3 (fun g' hg' => ?_)
      simp [Value.ownBlock] at hg'
      subst hg'
      rcases h4 with h4 | h4
      · exact .inl h4
      · exact .inr (by omega)
end Go.Proofs.YtibhohpamnpkcaaGreatDoor

/- Rows of details of a call's own. -/
namespace Go.Proofs.YtibhohpamnpkcaaGreatDoor
open Go.RowKit

theorem info_dt : (Tryz.prog.info? 70).map (fun i => (i.zero, i.size, i.bytes)) = some (some (.agg #[.slice none 0 0, .slice none 0 0]), 2, 48) := by kernel_rfl
def pairsV (us : List (Value × Value)) : List Value := us.flatMap fun u => [u.1, u.2]
theorem pairsV_len (us : List (Value × Value)) : (pairsV us).length = us.length * 2 := by
  induction us with
  | nil => rfl
  | cons p l ih =>
    unfold pairsV at ih ⊢
    rw [List.flatMap_cons, List.length_append, ih]
    simp only [List.length_cons, List.length_nil]
    omega
theorem pairsV_app (a b : List (Value × Value)) : pairsV (a ++ b) = pairsV a ++ pairsV b := by unfold pairsV; exact List.flatMap_append
/-- Pairs of slices. -/
def SlP (us : List (Value × Value)) : Prop := ∀ u ∈ us, (∃ a n c, u.1 = .slice a n c) ∧ ∃ a n c, u.2 = .slice a n c
theorem pairsV_one {us : List (Value × Value)} (h : SlP us) : ∀ v ∈ pairsV us, v.oneCell' = true := by
  intro v hv
  unfold pairsV at hv
  obtain ⟨u, hu, hv⟩ := List.mem_flatMap.1 hv
  obtain ⟨⟨a, n, c, e1⟩, ⟨a', n', c', e2⟩⟩ := h u hu
  rcases List.mem_cons.1 hv with rfl | hv
  · rw [e1]; rfl
  · obtain rfl : v = u.2 := by simpa using hv
    rw [e2]; rfl
def OwnD (w : World) (base : Nat) (v : Value) (us : List (Value × Value)) : Prop := w.ownsRow base 70 2 v us.length (pairsV us)
theorem OwnD.lit0 (w : World) : OwnD (w.alloc (.cells #[] 70)) w.heap.size (.slice (some ⟨w.heap.size, 0, none⟩) 0 0) [] := World.ownsRow_lit w #[] 0 (Nat.le_refl _) (Nat.zero_le _) rfl
theorem OwnD.below {w w' : World} {base : Nat} {v : Value} {us : List (Value × Value)} (h : OwnD w base v us) (hb : Below w.heap.size w w') : OwnD w' base v us := ownsRow_below h hb
theorem OwnD.base' {w : World} {base base' : Nat} {v : Value} {us : List (Value × Value)} (h : OwnD w base v us) (hb : base' ≤ base) : OwnD w base' v us := ownsRow_base h hb
theorem OwnD.lt {w : World} {base k : Nat} {v : Value} {us : List (Value × Value)} (h : OwnD w base v us) (hk : v.ownBlock = some k) : base ≤ k ∧ k < w.heap.size := World.ownsRow.lt h k hk
theorem flat_pairs : ∀ (us : List (Value × Value)) (i k : Nat) (u : Value × Value), us[i]? = some u → k < 2 → (pairsV us)[i * 2 + k]? = [u.1, u.2][k]? := by
  intro us
  induction us with
  | nil => intro i k u h; simp at h
  | cons q l ih =>
    intro i k u h hk
    unfold pairsV
    rw [List.flatMap_cons]
    cases i with
    | zero =>
      simp at h; subst h
      rw [List.getElem?_append_left (by show _ < 2; omega)]
      congr 1; omega
    | succ i =>
      simp at h
      rw [List.getElem?_append_right (by show 2 ≤ _; omega), ← ih i k u h hk]
      show (pairsV l)[_]? = _
      congr 1
      show (i + 1) * 2 + k - 2 = _
      omega
theorem PairSl.flat {w : World} {a : Option Addr} {us : List (Value × Value)} (h : PairSl w a us) : ∀ j y, (pairsV us)[j]? = some y → ∃ ad, a = some ad ∧ w.cell? (ad.add j) = some y := by
  intro j y hj
  have hjl := (List.getElem?_eq_some_iff.1 hj).1
  rw [pairsV_len] at hjl
  obtain ⟨u, hu⟩ : ∃ u, us[j / 2]? = some u := ⟨_, List.getElem?_eq_getElem (by omega)⟩
  obtain ⟨b, off, e, hb, c0, c1⟩ := h (j / 2) u hu
  refine ⟨⟨b, off, none⟩, e, ?_⟩
  rw [Addr.add_lit]
  have := flat_pairs us (j / 2) (j % 2) u hu (Nat.mod_lt _ (by decide))
  rw [show j / 2 * 2 + j % 2 = j by omega, hj] at this
  by_cases hm : j % 2 = 0
  · rw [hm] at this
    obtain rfl : y = u.1 := by simpa using this
    rw [show off + j = off + j / 2 * 2 by omega]
    exact c0
  · have hm1 : j % 2 = 1 := by omega
    rw [hm1] at this
    obtain rfl : y = u.2 := by simpa using this
    rw [show off + j = off + j / 2 * 2 + 1 by omega]
    exact c1
/-- append of details to a row of a call's own, carried out. -/
theorem wp_app_dts {w : World} {o : Oper} {a : Act} {K : Act → World → Prop} {Q : Exit → Act → World → Prop} (hgd : o.guard = none) (s x : Operand) (ho : o.op = .call { callee := .builtin .append, args := #[s, x], argTypes := #[52, 52] })
    (base : Nat) (v : Value) (us : List (Value × Value)) (hs : a.eval s = v) (hown : OwnD w base v us) (pa : Option Addr) (k c : Nat) (ys : List (Value × Value)) (hk : ys.length = k) (hx : a.eval x = .slice pa k c) (hy : PairSl w pa ys) (hone : SlP ys) (hb : us.length + k ≤ 10000) (hbase : base ≤ w.heap.size)
    (h : ∀ v' w', OwnD w' base v' (us ++ ys) → w.grownBy w' v.ownBlock → (∀ g, v'.ownBlock = some g → v.ownBlock = some g ∨ w.heap.size ≤ g) → (∃ a' c', v' = .slice a' (us.length + k) c') → K (a.put o.dst v') w') : Oper.wp Tryz.prog o a w K Q := by
  subst hk
  obtain ⟨i, hi, hz, hsize, hby⟩ := info_parts info_dt
  have := step_app_any (ops := #[]) (K := K) (Q := Q) (E := True) hgd s x 52 ho base 70 i _ 2 48 Tryz.underlying52 hi hz hsize hby rfl (by decide) v us.length (pairsV us) hs hown pa ys.length c (pairsV ys) hx (pairsV_len ys) hy.flat (pairsV_one hone) (by omega) (by decide) hbase ?_
  · rwa [if_pos (by simp [Region.wanted, hgd])] at this
  · intro a' c' w' h1 h2 h3
    refine h _ w' ?_ h2 h3 ⟨a', c', rfl⟩
    unfold OwnD
    rw [List.length_append, pairsV_app]
    exact h1
/-- What a slice of pairs is, that a call owns. -/
theorem OwnD.pairs {w : World} {base : Nat} {v : Value} {us : List (Value × Value)} (h : OwnD w base v us) : ∃ a c, v = .slice a us.length c ∧ PairSl w a us := by
  unfold OwnD at h
  rcases h.2 with ⟨e0, e1⟩ | ⟨g, cap, cur, e0, hg, hh, h1, h2, _⟩
  · exact ⟨none, 0, by rw [e0, e1], fun i u hu => by have := (List.getElem?_eq_some_iff.1 hu).1; omega⟩
  · refine ⟨_, cap, e0, fun i u hu => ?_⟩
    subst e0
    have hc := h.cells (g := g) rfl
    have key := fun k (hk : k < 2) => flat_pairs us i k u hu hk
    have c0 := hc (i * 2 + 0) _ ((key 0 (by decide)).trans rfl)
    have c1 := hc (i * 2 + 1) _ ((key 1 (by decide)).trans rfl)
    simp only [Addr.add_lit, Nat.zero_add, Nat.add_zero] at c0 c1
    exact ⟨g, 0, rfl, lt_of_block hh, by rw [Nat.zero_add]; exact c0, by rw [Nat.zero_add]; exact c1⟩
end Go.Proofs.YtibhohpamnpkcaaGreatDoor
