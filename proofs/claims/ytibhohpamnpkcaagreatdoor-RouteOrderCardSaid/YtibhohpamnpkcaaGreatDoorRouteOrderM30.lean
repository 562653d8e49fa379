/- The first rule of an association for an app; what it says; is an app named. -/
import Derived.Test.YtibhohpamnpkcaaGreatDoorRouteOrderM29
import Derived.Test.YtibhohpamnpkcaaGreatDoorRouteOrderM2
import Derived.Test.YtibhohpamnpkcaaGreatDoorRouteOrderM27

namespace Go.Proofs.YtibhohpamnpkcaaGreatDoor
open Go.RowKit

structure DtZ (d : Dt) : Prop where
  apps : d.apps.length ≤ 16777216
  rules : d.rules.length ≤ 16777216
  rule : ∀ x ∈ d.rules, RuZ x
/-- An association's details lie at a slice, and are not too great. -/
structure DetsIn (w : World) (da : Option Addr) (ds : List Dt) : Prop where
  sl : DetsSl w da ds
  len : ds.length ≤ 16777216
  z : ∀ d ∈ ds, DtZ d
theorem DetsIn.below {w w' : World} {da : Option Addr} {ds : List Dt} (h : DetsIn w da ds) (hb : Below w.heap.size w w') : DetsIn w' da ds := ⟨h.sl.below hb, h.len, h.z⟩
theorem DetsSl.cells {w : World} {a : Option Addr} {l : List Dt} (h : DetsSl w a l) {i : Nat} {d : Dt} (hd : l[i]? = some d) : ∃ b off u, a = some ⟨b, off, none⟩ ∧ b < w.heap.size ∧ w.cell? ⟨b, off + i * 2, none⟩ = some u.1 ∧ w.cell? ⟨b, off + i * 2 + 1, none⟩ = some u.2 ∧ DtV w u d := by
  obtain ⟨us, h1, _, h3⟩ := h
  obtain ⟨u, hu, hv⟩ := h3 i d hd
  obtain ⟨b, off, e, hlt, c0, c1⟩ := h1 i u hu
  exact ⟨b, off, u, e, hlt, c0, c1, hv⟩
theorem findG_cases {α : Type} (P : α → Bool) (l : List α) : (findG P l = -1 ∧ l.find? P = none) ∨ ∃ (k : Nat) (x : α), findG P l = (k : Int) ∧ l[k]? = some x ∧ l.find? P = some x := by
  unfold findG
  cases h : l.findIdx? P with
  | none =>
    refine .inl ⟨rfl, ?_⟩
    rw [List.findIdx?_eq_none_iff] at h
    rw [List.find?_eq_none]
    intro x hx; simp [h x hx]
  | some i =>
    obtain ⟨hi, h1, h2⟩ := List.findIdx?_eq_some_iff_getElem.1 h
    refine .inr ⟨i, l[i], rfl, List.getElem?_eq_getElem hi, ?_⟩
    rw [List.find?_eq_some_iff_append]
    refine ⟨h1, l.take i, l.drop (i + 1), ?_, ?_⟩
    · rw [← List.drop_eq_getElem_cons hi, List.take_append_drop]
    · intro a ha
      obtain ⟨j, hj⟩ := List.getElem?_of_mem ha
      rw [List.getElem?_take] at hj
      split at hj
      · rename_i hji
        obtain ⟨hjl, rfl⟩ := List.getElem?_eq_some_iff.1 hj
        have := h2 j hji
        simpa using this
      · cases hj
theorem some_hit {α β : Type} {f : α → Option β} {l : List α} {i : Nat} {d : α} {x : β} (h0 : ∀ y ∈ l.take i, f y = none) (h1 : l[i]? = some d) (h2 : f d = some x) : l.findSome? f = some x := by
  rw [List.findSome?_eq_some_iff]
  obtain ⟨hi, rfl⟩ := List.getElem?_eq_some_iff.1 h1
  exact ⟨l.take i, l[i], l.drop (i + 1), by rw [← List.drop_eq_getElem_cons hi, List.take_append_drop], h2, h0⟩
theorem none_step {α β : Type} {f : α → Option β} {l : List α} {i : Nat} {d : α} (h0 : ∀ y ∈ l.take i, f y = none) (h1 : l[i]? = some d) (h2 : f d = none) : ∀ y ∈ l.take (i + 1), f y = none := by
  intro y hy
  rw [List.take_add_one, h1] at hy
  rcases List.mem_append.1 hy with hy | hy
  · exact h0 y hy
  · obtain rfl : y = d := by simpa using hy
    exact h2
def FirstPost (ds : List Dt) (app : ByteArray × ByteArray) (vars : List SVar) (u : Ur) (w : World) (e : Ending) (w' : World) : Prop := Below w.heap.size w w' ∧
  ((ds.findSome? (hitD app vars u) = none ∧ e = .returned (.tuple #[.int .i64 0, .int .i64 0, .bool false])) ∨
   ∃ (i k : Nat) (d : Dt) (x : Ru), ds[i]? = some d ∧ d.rules[k]? = some x ∧ ds.findSome? (hitD app vars u) = some x ∧ e = .returned (.tuple #[.int .i64 (i : Int), .int .i64 (k : Int), .bool true]))
theorem FirstPost.no {ds : List Dt} {app : ByteArray × ByteArray} {vars : List SVar} {u : Ur} {w w' : World} (hb : Below w.heap.size w w') (h : ds.findSome? (hitD app vars u) = none) : FirstPost ds app vars u w (.returned (.tuple #[.int .i64 0, .int .i64 0, .bool false])) w' := ⟨hb, .inl ⟨h, rfl⟩⟩
theorem FirstPost.yes {ds : List Dt} {app : ByteArray × ByteArray} {vars : List SVar} {u : Ur} {w w' : World} {i k : Nat} {d : Dt} {x : Ru} (hb : Below w.heap.size w w') (h1 : ds[i]? = some d) (h2 : d.rules[k]? = some x) (h3 : ds.findSome? (hitD app vars u) = some x) : FirstPost ds app vars u w (.returned (.tuple #[.int .i64 (i : Int), .int .i64 (k : Int), .bool true])) w' := ⟨hb, .inr ⟨i, k, d, x, h1, h2, h3, rfl⟩⟩
theorem hitD_eq (app : ByteArray × ByteArray) (vars : List SVar) (u : Ur) (d : Dt) : hitD app vars u d = if amongB app d.apps = true then d.rules.find? (ruleP vars u) else none := rfl
/-- What First has laid: the association, the app, the URL. -/
structure FirstAt (W : World) (g : Nat) (da : Option Addr) (dn dcap : Nat) (av : Option Addr) (vn vcap : Nat) (pa pb : ByteArray) (u : Ur) : Prop where
  a : BlkAt W g 55 #[.slice da dn dcap, .slice av vn vcap]
  p : BlkAt W (g + 1) 57 #[.string pa, .string pb]
  u : UrlAt W (g + 1 + 1) u
theorem FirstAt.below {w w' : World} {g : Nat} {da : Option Addr} {dn dcap : Nat} {av : Option Addr} {vn vcap : Nat} {pa pb : ByteArray} {u : Ur} (h : FirstAt w g da dn dcap av vn vcap pa pb u) (hb : Below w.heap.size w w') : FirstAt w' g da dn dcap av vn vcap pa pb u := ⟨h.a.below hb, h.p.below hb, h.u.below hb⟩
set_option maxHeartbeats 6400000 in
set_option maxRecDepth 100000 in
theorem route_First (da : Option Addr) (dcap : Nat) (ds : List Dt) (app : ByteArray × ByteArray) (u : Ur) (av : Option Addr) (vcap : Nat) (vars : List SVar) (w : World) (hw : Looks w av vars) (hH : Handle w) (hd : DetsIn w da ds) (hu : UrZ u) :
    Calls Tryz.prog 40 #[.agg #[.slice da ds.length dcap, .slice av vars.length vcap], .agg #[.string app.1, .string app.2], .agg #[.string u.scheme, .int .i64 u.hk, .string u.host, .int .i64 u.port, .string u.path, .string u.query, .string u.frag, .bool u.hq, .bool u.hf]] w (FirstPost ds app vars u w) := by
  obtain ⟨pa, pb⟩ := app
  have HF := Lib.hid (fun W (hW : Below w.heap.size w W) => (⟨hw.below hW, hH.below hW, hd.below hW⟩ : Looks W av vars ∧ Handle W ∧ DetsIn W da ds))
  have HZ := Lib.hid hd.z
  have hn := hd.len
  have CW := Lib.hid (fun W (hW : Below w.heap.size w W) x (hx : RuleIn W x) => seen_wanted x u av vcap vars W (HF.out W hW).1 (HF.out W hW).2.1 hx hu)
  have HH := Lib.hid (hitD_eq (pa, pb) vars u)
  have PN := Lib.hid (fun w' hb h => @FirstPost.no ds (pa, pb) vars u w w' hb h)
  have PY := Lib.hid (fun w' i k d x hb h1 h2 h3 => @FirstPost.yes ds (pa, pb) vars u w w' i k d x hb h1 h2 h3)
  generalize hitD (pa, pb) vars u = fn at *
  generalize ruleP vars u = rp at *
  clear hw hH hd hu
  have hAt : FirstAt (((w.alloc (.cells #[.slice da ds.length dcap, .slice av vars.length vcap] 55)).alloc (.cells #[.string pa, .string pb] 57)).alloc (.cells (urA u) 59)) w.heap.size da ds.length dcap av vars.length vcap pa pb u :=
    ⟨((BlkAt.new _ _ _).alloc _).alloc _, (BlkAt.new1 _ _ _ _).alloc _, BlkAt.new2 _ _ _ _ _⟩
  have hal := below_alloc3 w (.cells #[.slice da ds.length dcap, .slice av vars.length vcap] 55) (.cells #[.string pa, .string pb] 57) (.cells (urA u) 59)
  unfold urA at hAt hal
  generalize vars.length = vn at *
  have HAL := Lib.hid hal
  have HAT := Lib.hid hAt
  clear hal hAt
  go_enter Tryz.func40, Tryz.ntmps40
  go_wp2_with fail
  go_loopw [15] (fun x wr => ∃ i : Nat, i ≤ ds.length ∧ x = .int .i64 i ∧ Below w.heap.size w wr ∧ FirstAt wr w.heap.size da ds.length dcap av vn vcap pa pb u ∧ ∀ y ∈ ds.take i, fn y = none) (fun x _ => ds.length - (intOf x).toNat)
  case atStart => exact ⟨0, Nat.zero_le _, rfl, HAL.out, HAT.out, fun y h => by simp at h⟩
  case round =>
    obtain ⟨i, hil, rfl, hbr, hat, hall⟩ := hrel
    have HA := Lib.hid hall
    have HATR := Lib.hid hat
    clear hall HAL HAT
    have c0 := hat.a.cell 0 _ rfl
    have c1 := hat.a.cell 1 _ rfl
    clear hat
    by_cases hlt : i < ds.length
    · obtain ⟨d, hx⟩ : ∃ d, ds[i]? = some d := ⟨_, List.getElem?_eq_getElem hlt⟩
      obtain ⟨_, _, hdr⟩ := HF.out wr hbr
      obtain ⟨b, off, uu, rfl, hb, d0, d1, hdv⟩ := hdr.sl.cells hx
      obtain ⟨⟨aa, ac, ea, hap⟩, ⟨ra, rc, er, hru⟩⟩ := hdv
      obtain ⟨v0, v1⟩ := uu
      dsimp only at ea er d0 d1
      subst ea er
      have hdz := HZ.out d (List.mem_of_getElem? hx)
      have HRZ := Lib.hid hdz.rule
      have hal1 := hdz.apps
      have hrl1 := hdz.rules
      have HHD := Lib.hid (HH.out d)
      have HX := Lib.hid hx
      have hiI : (i : Int) < (ds.length : Int) := by omega
      have hbl := below_alloc wr (.cells #[.slice aa d.apps.length ac, .slice ra d.rules.length rc] 70)
      have hD := BlkAt.new wr #[.slice aa d.apps.length ac, .slice ra d.rules.length rc] 70
      have CC := Lib.hid (apps_Contains aa ac d.apps (pa, pb) _ (hap.below hbl) hal1)
      have p0 := (HATR.out.below hbl).p.cell 0 _ rfl
      have p1 := (HATR.out.below hbl).p.cell 1 _ rfl
      have HBL := Lib.hid hbl
      have HD := Lib.hid hD
      have HRU := Lib.hid (hru.below hbl)
      clear hdr hx hdz hap hru hbl hD
      generalize amongB (pa, pb) d.apps = am at *
      go_wp2_with fail
      refine CC.out.mono ?_
      rintro e w2 ⟨rfl, hb2⟩
      have hbr2 := Bt (Bt hbr HBL.out) hb2
      have HAT2 := Lib.hid ((HATR.out.below HBL.out).below hb2)
      have hD2 := HD.out.below hb2
      have HRU2 := Lib.hid (HRU.out.below hb2)
      clear hb2 c0 c1 p0 p1 d0 d1 HD HRU HBL HATR CC
      cases am
      · have HS := Lib.hid (none_step HA.out HX.out (by rw [HHD.out]; rfl))
        go_wp2_with fail
        go_roundw
        case rel => exact ⟨i + 1, by omega, by go_num, hbr2, HAT2.out, HS.out⟩
        case measure => simp [intOf]; omega
      · have HHD2 := Lib.hid (HHD.out.trans (if_pos rfl))
        have e0 := hD2.cell 0 _ rfl
        have e1 := hD2.cell 1 _ rfl
        have c0 := HAT2.out.a.cell 0 _ rfl
        have c1 := HAT2.out.a.cell 1 _ rfl
        obtain ⟨u0, u1, u2, u3, u4, u5, u6, u7, u8⟩ := HAT2.out.u.cells
        have CI := Lib.hid (rules_IndexFunc ra rc d.rules 62 (.agg #[.slice av vn vcap, .string u.scheme, .int .i64 u.hk, .string u.host, .int .i64 u.port, .string u.path, .string u.query, .string u.frag, .bool u.hq, .bool u.hf]) rp w2 HRU2.out hrl1 (enters_of Tryz.func62 (by kernel_rfl) rfl) (fun W x hx hW => CW.out W (Bt hbr2 hW) x (((HRU2.out).below hW).rule HRZ.out hx)))
        have hmf : ∀ (fn : Fn) (first cap : Array Value) (w : World), (Instr.makeFunc fn first cap).run Tryz.prog w = .ok (.func fn first cap) w := fun _ _ _ _ => rfl
        have HFC := Lib.hid (findG_cases rp d.rules)
        generalize findG rp d.rules = k at *
        generalize d.rules.find? rp = fr at *
        clear HHD hD2
        go_wp2_with fail
        refine CI.out.mono ?_
        rintro e w3 ⟨rfl, hb3⟩
        have hbr3 := Bt hbr2 hb3
        have HAT3 := Lib.hid (HAT2.out.below hb3)
        clear hb3 CI hmf c0 c1 e0 e1 u0 u1 u2 u3 u4 u5 u6 u7 u8
        rcases HFC.out with ⟨rfl, rfl⟩ | ⟨k, x, rfl, hk, rfl⟩
        · have HS := Lib.hid (none_step HA.out HX.out HHD2.out)
          clear HFC
          go_wp2_with fail
          go_roundw
          case rel => exact ⟨i + 1, by omega, by go_num, hbr3, HAT3.out, HS.out⟩
          case measure => simp [intOf]; omega
        · have HS := Lib.hid (some_hit HA.out HX.out HHD2.out)
          have HK := Lib.hid hk
          clear HFC hk
          go_wp2_with fail
          go_ret3
          exact PY.out _ i k d x hbr3 HX.out HK.out HS.out
    · obtain rfl : i = ds.length := by omega
      have hA := HA.out
      rw [List.take_length] at hA
      have HN := Lib.hid (List.findSome?_eq_none_iff.2 hA)
      clear hA
      go_wp2_with fail
      go_ret3
      exact PN.out _ hbr HN.out
end Go.Proofs.YtibhohpamnpkcaaGreatDoor

/- What an association says of an app and a URL; is an app named. -/
namespace Go.Proofs.YtibhohpamnpkcaaGreatDoor
open Go.RowKit

theorem verdict_no {ds : List Dt} {app : ByteArray × ByteArray} {vars : List SVar} {u : Ur} (h : ds.findSome? (hitD app vars u) = none) : verdictN ds app vars u = 0 := by unfold verdictN; rw [h]; rfl
theorem verdict_yes {ds : List Dt} {app : ByteArray × ByteArray} {vars : List SVar} {u : Ur} {x : Ru} (h : ds.findSome? (hitD app vars u) = some x) : verdictN ds app vars u = if x.r.ex = true then 2 else 1 := by unfold verdictN; rw [h]; rfl
theorem ret_nat {n : Nat} {m : Nat} (h : n = m) : Ending.returned (.int .i64 ((n : Nat) : Int)) = .returned (.int .i64 ((m : Nat) : Int)) := by rw [h]
set_option maxHeartbeats 3200000 in
set_option maxRecDepth 100000 in
theorem route_Verdict (da : Option Addr) (dcap : Nat) (ds : List Dt) (app : ByteArray × ByteArray) (u : Ur) (av : Option Addr) (vcap : Nat) (vars : List SVar) (w : World) (hw : Looks w av vars) (hH : Handle w) (hd : DetsIn w da ds) (hu : UrZ u) :
    Calls Tryz.prog 24 #[.agg #[.slice da ds.length dcap, .slice av vars.length vcap], .agg #[.string app.1, .string app.2], .agg #[.string u.scheme, .int .i64 u.hk, .string u.host, .int .i64 u.port, .string u.path, .string u.query, .string u.frag, .bool u.hq, .bool u.hf]] w fun e w' => e = .returned (.int .i64 ((verdictN ds app vars u : Nat) : Int)) ∧ Below w.heap.size w w' := by
  obtain ⟨pa, pb⟩ := app
  have HF := Lib.hid (fun W (hW : Below w.heap.size w W) => hd.below hW)
  have CW := Lib.hid (fun W (hW : Below w.heap.size w W) => route_First da dcap ds (pa, pb) u av vcap vars W (hw.below hW) (hH.below hW) (hd.below hW) hu)
  have hAt : FirstAt (((w.alloc (.cells #[.slice da ds.length dcap, .slice av vars.length vcap] 55)).alloc (.cells #[.string pa, .string pb] 57)).alloc (.cells (urA u) 59)) w.heap.size da ds.length dcap av vars.length vcap pa pb u :=
    ⟨((BlkAt.new _ _ _).alloc _).alloc _, (BlkAt.new1 _ _ _ _).alloc _, BlkAt.new2 _ _ _ _ _⟩
  have hal := below_alloc3 w (.cells #[.slice da ds.length dcap, .slice av vars.length vcap] 55) (.cells #[.string pa, .string pb] 57) (.cells (urA u) 59)
  unfold urA at hAt hal
  have HAL := Lib.hid hal
  have HAT := Lib.hid hAt
  clear hal hAt hw hH hd hu
  go_enter Tryz.func24, Tryz.ntmps24
  go_wp2_with fail
  refine (CW.out _ HAL.out).mono ?_
  rintro e w1 ⟨hb1, h⟩
  have hb01 := Bt HAL.out hb1
  have c0 := (HAT.out.below hb1).a.cell 0 _ rfl
  clear HAL CW hb1 HAT
  rcases h with ⟨hn, rfl⟩ | ⟨i, k, d, x, hi, hk, hs, rfl⟩
  · have HN := Lib.hid (verdict_no hn)
    clear hn
    go_wp2_with fail
    go_ret
    exact ⟨ret_nat HN.out.symm, hb01⟩
  · have HN := Lib.hid (verdict_yes hs)
    obtain ⟨b, off, uu, rfl, hb, d0, d1, hdv⟩ := (HF.out _ hb01).sl.cells hi
    obtain ⟨_, ⟨ra, rc, er, hru⟩⟩ := hdv
    obtain ⟨v0, v1⟩ := uu
    dsimp only at er d0 d1
    subst er
    obtain ⟨b2, off2, rfl, hb2, dd, -, -⟩ := hru k x hk
    have d7 := dd 7 _ rfl
    have hil := (List.getElem?_eq_some_iff.1 hi).1
    have hkl := (List.getElem?_eq_some_iff.1 hk).1
    have iI : (i : Int) < (ds.length : Int) := by omega
    have kI : (k : Int) < (d.rules.length : Int) := by omega
    have z1 := (HF.out _ hb01).len
    have z2 := ((HF.out _ hb01).z d (List.mem_of_getElem? hi)).rules
    obtain ⟨⟨f0, f1, f2, f3, f4, f5, f6, ln, f7, ex, f9, f10⟩, items⟩ := x
    dsimp only at d7 HN
    clear hs hi hk hru dd HF
    cases ex
    · go_wp2_with fail
      go_ret
      exact ⟨ret_nat (HN.out.trans (by simp)).symm, hb01⟩
    · go_wp2_with fail
      go_ret
      exact ⟨ret_nat (HN.out.trans (by simp)).symm, hb01⟩
set_option maxHeartbeats 1600000 in
theorem route_Names1 (app : ByteArray × ByteArray) (a1 a2 : Option Addr) (c1 c2 : Nat) (d : Dt) (g : Nat) (w : World) (hg : BlkAt w g 57 #[.string app.1, .string app.2]) (hsl : AppsSl w a1 d.apps) (hl : d.apps.length ≤ 16777216) :
    Calls Tryz.prog 42 #[.agg #[.slice a1 d.apps.length c1, .slice a2 d.rules.length c2], .pointer (some ⟨g, 0, none⟩)] w fun e w' => e = .returned (.bool (amongB app d.apps)) ∧ Below w.heap.size w w' := by
  obtain ⟨pa, pb⟩ := app
  dsimp only at hg
  have hbl := below_alloc w (.cells #[.slice a1 d.apps.length c1, .slice a2 d.rules.length c2] 70)
  have CC := Lib.hid (apps_Contains a1 c1 d.apps (pa, pb) _ (hsl.below hbl) hl)
  have p0 := (hg.below hbl).cell 0 _ rfl
  have p1 := (hg.below hbl).cell 1 _ rfl
  have HBL := Lib.hid hbl
  generalize amongB (pa, pb) d.apps = k at *
  clear hbl hsl hg
  go_enter Tryz.func42, Tryz.ntmps42
  go_wp2_with fail
  refine CC.out.mono ?_
  rintro e w2 ⟨rfl, hb2⟩
  have hb := Bt HBL.out hb2
  go_wp2_with fail
  go_ret
  exact ⟨rfl, hb⟩
set_option maxHeartbeats 1600000 in
set_option maxRecDepth 100000 in
theorem dets_IndexFunc (a : Option Addr) (cap : Nat) (l : List Dt) (app : ByteArray × ByteArray) (g : Nat) (w : World) (hg : BlkAt w g 57 #[.string app.1, .string app.2]) (hsl : DetsIn w a l) :
    Calls Tryz.prog 63 #[.slice a l.length cap, .func (.func 42) #[] #[.pointer (some ⟨g, 0, none⟩)]] w fun e w' => e = .returned (.int .i64 (findG (fun d => amongB app d.apps) l)) ∧ Below w.heap.size w w' := by
  have HSL := Lib.hid hsl
  have HG := Lib.hid hg
  have hl := hsl.len
  have HEG := Lib.hid (enters_of Tryz.func42 (by kernel_rfl) rfl)
  generalize hP : (fun d : Dt => amongB app d.apps) = P at *
  have HP := Lib.hid hP
  clear hsl hg hP
  go_enter Tryz.func63, Tryz.ntmps63
  go_wp2_with fail
  go_loopw [8] (fun x wr => ∃ i : Nat, i ≤ l.length ∧ x = .int .i64 i ∧ Below w.heap.size w wr ∧ ∀ (j : Nat) (y : Dt), j < i → l[j]? = some y → P y = false) (fun x _ => l.length - (intOf x).toNat)
  case atStart => exact ⟨0, Nat.zero_le _, rfl, Below.refl _ _, fun j y h => by omega⟩
  case round =>
    obtain ⟨i, hil, rfl, hbr, hall⟩ := hrel
    have HA := Lib.hid hall
    clear hall
    by_cases hlt : i < l.length
    · obtain ⟨x, hx⟩ : ∃ x, l[i]? = some x := ⟨_, List.getElem?_eq_getElem hlt⟩
      obtain ⟨b, off, uu, rfl, hb, d0, d1, hdv⟩ := (HSL.out.below hbr).sl.cells hx
      obtain ⟨⟨aa, ac, ea, hap⟩, ⟨ra, rc, er, hru⟩⟩ := hdv
      obtain ⟨v0, v1⟩ := uu
      dsimp only at ea er d0 d1
      subst ea er
      have hdz := HSL.out.z x (List.mem_of_getElem? hx)
      have hhit := fun h => findG_hit hx h HA.out
      have hst : P x = false → ∀ (j : Nat) (y : Dt), j < i + 1 → l[j]? = some y → P y = false := fun h j y hj hy => by
        by_cases hji : j = i
        · subst hji; rw [hx] at hy; cases hy; exact h
        · exact HA.out j y (by omega) hy
      have HHIT := Lib.hid hhit
      have HST := Lib.hid hst
      have cF := Lib.hid (route_Names1 app aa ra ac rc x g wr (HG.out.below hbr) hap hdz.apps)
      have HPX := Lib.hid (show amongB app x.apps = P x by rw [← HP.out])
      rw [HPX.out] at cF
      have hiI : (i : Int) < (l.length : Int) := by omega
      clear hhit hst hx HA hap hru hdz HPX
      generalize P x = r at *
      go_wp2_with fail
      refine cF.out.mono ?_
      rintro e w2 ⟨rfl, hb2⟩
      have hbr2 := Bt hbr hb2
      cases r
      · have HX := Lib.hid (HST.out rfl)
        go_wp2_with fail
        go_roundw
        case rel => exact ⟨i + 1, by omega, by go_num, hbr2, HX.out⟩
        case measure => simp [intOf]; omega
      · have HX := Lib.hid (HHIT.out rfl)
        go_wp2_with fail
        go_ret
        exact ⟨ret_i64 HX.out.symm, hbr2⟩
    · obtain rfl : i = l.length := by omega
      have hn : findG P l = -1 := findG_none fun j y hy => HA.out j y (List.getElem?_eq_some_iff.1 hy).1 hy
      have HN := Lib.hid hn
      clear hn
      go_wp2_with fail
      go_ret
      exact ⟨ret_i64 HN.out.symm, hbr⟩
set_option maxHeartbeats 800000 in
theorem dets_ContainsFunc (a : Option Addr) (cap : Nat) (l : List Dt) (app : ByteArray × ByteArray) (g : Nat) (w : World) (hg : BlkAt w g 57 #[.string app.1, .string app.2]) (hsl : DetsIn w a l) :
    Calls Tryz.prog 41 #[.slice a l.length cap, .func (.func 42) #[] #[.pointer (some ⟨g, 0, none⟩)]] w fun e w' => e = .returned (.bool (namedB l app)) ∧ Below w.heap.size w w' := by
  have cI := Lib.hid (dets_IndexFunc a cap l app g w hg hsl)
  have HA := Lib.hid (findG_any (fun d => amongB app d.apps) l)
  have HB := Lib.hid (show l.any (fun d => amongB app d.apps) = namedB l app from rfl)
  rw [HB.out] at HA
  generalize findG _ l = i at *
  generalize namedB l app = ok at *
  clear hg hsl HB
  go_enter Tryz.func41, Tryz.ntmps41
  go_wp2_with fail
  refine cI.out.mono ?_
  rintro e w2 ⟨rfl, hb2⟩
  go_wp2_with fail
  go_ret
  exact ⟨ret_bool HA.out, hb2⟩
set_option maxHeartbeats 800000 in
theorem route_Names (da : Option Addr) (dcap : Nat) (ds : List Dt) (app : ByteArray × ByteArray) (av : Option Addr) (vn vcap : Nat) (w : World) (hd : DetsIn w da ds) :
    Calls Tryz.prog 25 #[.agg #[.slice da ds.length dcap, .slice av vn vcap], .agg #[.string app.1, .string app.2]] w fun e w' => e = .returned (.bool (namedB ds app)) ∧ Below w.heap.size w w' := by
  obtain ⟨pa, pb⟩ := app
  have hbl := below_alloc2 w (.cells #[.slice da ds.length dcap, .slice av vn vcap] 55) (.cells #[.string pa, .string pb] 57)
  have hmf : ∀ (fn : Fn) (first cap : Array Value) (w : World), (Instr.makeFunc fn first cap).run Tryz.prog w = .ok (.func fn first cap) w := fun _ _ _ _ => rfl
  have CC := Lib.hid (dets_ContainsFunc da dcap ds (pa, pb) (w.heap.size + 1) _ (BlkAt.new1 w (.cells #[.slice da ds.length dcap, .slice av vn vcap] 55) #[.string pa, .string pb] 57) (hd.below hbl))
  generalize namedB ds _ = ok at *
  have HBL := Lib.hid hbl
  clear hd hbl
  go_enter Tryz.func25, Tryz.ntmps25
  go_wp2_with fail
  refine CC.out.mono ?_
  rintro e w2 ⟨rfl, hb2⟩
  have hb := Bt HBL.out hb2
  go_wp2_with fail
  go_ret
  exact ⟨rfl, hb⟩
end Go.Proofs.YtibhohpamnpkcaaGreatDoor

/- The example of chapter 21's statements. -/
namespace Go.Proofs.YtibhohpamnpkcaaGreatDoor
open Go.RowKit

theorem flat_at {α : Type} {l : List α} {f : α → List Value} {n : Nat} (hf : ∀ x, (f x).length = n) {i j : Nat} {x : α} (h : l[i]? = some x) (hj : j < n) : (l.flatMap f)[i * n + j]? = (f x)[j]? := by
  induction l generalizing i with
  | nil => simp at h
  | cons q l ih =>
    rw [List.flatMap_cons]
    cases i with
    | zero =>
      simp at h; subst h
      rw [List.getElem?_append_left (by rw [hf]; omega)]
      congr 1; omega
    | succ i =>
      simp at h
      rw [List.getElem?_append_right (by rw [hf, Nat.add_mul]; omega), ← ih h]
      congr 1
      rw [hf, Nat.add_mul]; omega
theorem rules_lit {w : World} {g : Nat} {t : TypeId} {l : List Ru} (h : BlkAt w g t (l.flatMap fun x => rlC x.r).toArray) (hi : ∀ x ∈ l, x.r.ilen = x.items.length ∧ ItemsSl w x.r.ia x.items) : RulesSl w (some ⟨g, 0, none⟩) l := by
  intro i x hx
  refine ⟨g, 0, rfl, h.lt, fun j v hj => ?_, (hi x (List.mem_of_getElem? hx)).1, (hi x (List.mem_of_getElem? hx)).2⟩
  have hjl : j < 10 := (List.getElem?_eq_some_iff.1 hj).1
  rw [Nat.zero_add]
  refine h.cell _ _ ?_
  rw [List.getElem?_toArray, flat_at (n := 10) (f := fun x : Ru => rlC x.r) (fun x => rfl) hx hjl]
  exact hj
theorem apps_lit {w : World} {g : Nat} {t : TypeId} {l : List (ByteArray × ByteArray)} (h : BlkAt w g t (l.flatMap fun x => [Value.string x.1, .string x.2]).toArray) : AppsSl w (some ⟨g, 0, none⟩) l := by
  intro i x hx
  have q := fun j (hj : j < 2) => flat_at (n := 2) (f := fun x : ByteArray × ByteArray => [Value.string x.1, .string x.2]) (fun x => rfl) hx hj
  refine ⟨g, 0, rfl, h.lt, ?_, ?_⟩
  · rw [Nat.zero_add]
    refine h.cell _ _ ?_
    rw [List.getElem?_toArray]
    exact (q 0 (by decide)).trans rfl
  · rw [Nat.zero_add]
    refine h.cell _ _ ?_
    rw [List.getElem?_toArray]
    exact (q 1 (by decide)).trans rfl
theorem pairs_lit {w : World} {g : Nat} {t : TypeId} {us : List (Value × Value)} (h : BlkAt w g t (us.flatMap fun u => [u.1, u.2]).toArray) : PairSl w (some ⟨g, 0, none⟩) us := by
  intro i x hx
  have q := fun j (hj : j < 2) => flat_at (n := 2) (f := fun u : Value × Value => [u.1, u.2]) (fun x => rfl) hx hj
  refine ⟨g, 0, rfl, h.lt, ?_, ?_⟩
  · rw [Nat.zero_add]
    refine h.cell _ _ ?_
    rw [List.getElem?_toArray]
    exact (q 0 (by decide)).trans rfl
  · rw [Nat.zero_add]
    refine h.cell _ _ ?_
    rw [List.getElem?_toArray]
    exact (q 1 (by decide)).trans rfl
def exTeam : ByteArray := ⟨#[65, 66, 67, 68, 69, 49, 50, 51, 52, 53]⟩
def exR1 : Ru := ⟨⟨⟨#[47, 98, 117, 121, 47, 120]⟩, ⟨#[]⟩, ⟨#[]⟩, true, false, false, none, 0, 0, true, false, false⟩, []⟩
def exR2 : Ru := ⟨⟨⟨#[47, 98, 117, 121, 47, 42]⟩, ⟨#[]⟩, ⟨#[]⟩, true, false, false, none, 0, 0, false, false, false⟩, []⟩
def exDt : Dt := ⟨[(exTeam, ⟨#[97]⟩)], [exR1, exR2]⟩
def exU (p : ByteArray) : Ur := ⟨⟨#[104, 116, 116, 112, 115]⟩, 1, ⟨#[104]⟩, 443, p, ⟨#[]⟩, ⟨#[]⟩, false, false⟩
theorem ex_v1 : verdictN [exDt] (exTeam, ⟨#[97]⟩) [] (exU ⟨#[47, 98, 117, 121, 47, 120]⟩) = 2 := by decide +kernel
theorem ex_v2 : verdictN [exDt] (exTeam, ⟨#[97]⟩) [] (exU ⟨#[47, 98, 117, 121, 47, 121]⟩) = 1 := by decide +kernel
theorem ex_v3 : verdictN [exDt] (exTeam, ⟨#[97]⟩) [] (exU ⟨#[47]⟩) = 0 := by decide +kernel
theorem ex_name {r : Except (Nat × Nat) ByteArray} (h : NameIs ⟨#[104]⟩ r) : r = .ok ⟨#[104]⟩ :=
  name_told (ps := [⟨#[104]⟩]) (xs := [⟨#[104]⟩]) (by decide +kernel) (by decide +kernel) (by kernel_rfl) (by decide) (by decide +kernel) h
theorem ex_host (s : ByteArray) (h1 : 9 ≤ s.size) (h2 : firstM (s.extract 0 9) 8 ⟨#[64]⟩ = 9) (h3 : s.extract 8 9 = ⟨#[104]⟩) (h4 : byteAt s 8 = 104) : HostT s 8 9 ⟨#[104]⟩ where
  le := by decide
  len := h1
  small := by decide
  user := h2
  plain := fun i a b => by
    obtain rfl : i = 8 := by omega
    rw [h4]; decide
  first := by rw [h3]; decide
  told_ := by rw [h3]; decide +kernel
  name := fun r hr => ex_name (by rw [h3] at hr; exact hr)
  num := by decide +kernel
  tz := by decide
def exS1 : ByteArray := ⟨#[104, 116, 116, 112, 115, 58, 47, 47, 104, 47, 98, 117, 121, 47, 120]⟩
def exS2 : ByteArray := ⟨#[104, 116, 116, 112, 115, 58, 47, 47, 104, 47, 98, 117, 121, 47, 121]⟩
def exS3 : ByteArray := ⟨#[104, 116, 116, 112, 115, 58, 47, 47, 104, 47]⟩
theorem ex_s1 : UrlT exS1 ⟨#[104, 116, 116, 112, 115]⟩ 5 9 ⟨#[104]⟩ ⟨#[47, 98, 117, 121, 47, 120]⟩ where
  clean := ⟨by decide, by decide +kernel, by decide +kernel⟩
  sch14 := by kernel_rfl
  colon := by decide +kernel
  at1 := by decide
  at2 := by decide
  host := ex_host _ (by decide) (by decide +kernel) (by decide +kernel) (by decide)
  stop := by decide +kernel
  till := by decide +kernel
  path := by kernel_rfl
  nonempty := by decide
theorem ex_s2 : UrlT exS2 ⟨#[104, 116, 116, 112, 115]⟩ 5 9 ⟨#[104]⟩ ⟨#[47, 98, 117, 121, 47, 121]⟩ where
  clean := ⟨by decide, by decide +kernel, by decide +kernel⟩
  sch14 := by kernel_rfl
  colon := by decide +kernel
  at1 := by decide
  at2 := by decide
  host := ex_host _ (by decide) (by decide +kernel) (by decide +kernel) (by decide)
  stop := by decide +kernel
  till := by decide +kernel
  path := by kernel_rfl
  nonempty := by decide
theorem ex_s3 : UrlT exS3 ⟨#[104, 116, 116, 112, 115]⟩ 5 9 ⟨#[104]⟩ ⟨#[47]⟩ where
  clean := ⟨by decide, by decide +kernel, by decide +kernel⟩
  sch14 := by kernel_rfl
  colon := by decide +kernel
  at1 := by decide
  at2 := by decide
  host := ex_host _ (by decide) (by decide +kernel) (by decide +kernel) (by decide)
  stop := by decide +kernel
  till := by decide +kernel
  path := by kernel_rfl
  nonempty := by decide
def spkA : Array Value := #[.string ⟨#[65, 66, 67, 68, 69, 49, 50, 51, 52, 53]⟩, .string ⟨#[97]⟩]
def spkR : Array Value := #[.string ⟨#[47, 98, 117, 121, 47, 120]⟩, .string ⟨#[]⟩, .string ⟨#[]⟩, .bool true, .bool false, .bool false, .slice none 0 0, .bool true, .bool false, .bool false, .string ⟨#[47, 98, 117, 121, 47, 42]⟩, .string ⟨#[]⟩, .string ⟨#[]⟩, .bool true, .bool false, .bool false, .slice none 0 0, .bool false, .bool false, .bool false]
/-- What the example lays: the app, and the association. -/
structure SpkAt (W : World) (g : Nat) : Prop where
  app : BlkAt W g 57 spkA
  assoc : BlkAt W (g + 1 + 1 + 1 + 1) 55 #[.slice (some ⟨g + 1 + 1 + 1, 0, none⟩) 1 1, .slice none 0 0]
  dets : DetsIn W (some ⟨g + 1 + 1 + 1, 0, none⟩) [exDt]
theorem SpkAt.below {w w' : World} {g : Nat} (h : SpkAt w g) (hb : Below w.heap.size w w') : SpkAt w' g := ⟨h.app.below hb, h.assoc.below hb, h.dets.below hb⟩
def spkW (w : World) : World := ((((w.alloc (.cells spkA 57)).alloc (.cells spkA 57)).alloc (.cells spkR 62)).alloc (.cells #[.slice (some ⟨w.heap.size + 1, 0, none⟩) 1 1, .slice (some ⟨w.heap.size + 1 + 1, 0, none⟩) 2 2] 70)).alloc (.cells #[.slice (some ⟨w.heap.size + 1 + 1 + 1, 0, none⟩) 1 1, .slice none 0 0] 55)
theorem ruZ_of {x : Ru} (h1 : x.r.path.size ≤ 40) (h2 : x.r.query.size ≤ 40) (h3 : x.r.frag.size ≤ 40) (h4 : x.items = []) : RuZ x := ⟨by omega, by omega, by omega, by rw [h4]; decide, by rw [h4]; intro i hi; cases hi⟩
theorem spk_lay (w : World) : SpkAt (spkW w) w.heap.size ∧ Below w.heap.size w (spkW w) := by
  have h1 : BlkAt (spkW w) (w.heap.size + 1) 57 spkA := (((BlkAt.new1 w (.cells spkA 57) spkA 57).alloc _).alloc _).alloc _
  have h2 : BlkAt (spkW w) (w.heap.size + 1 + 1) 62 spkR := ((BlkAt.new2 w (.cells spkA 57) (.cells spkA 57) spkR 62).alloc _).alloc _
  have h3 : BlkAt (spkW w) (w.heap.size + 1 + 1 + 1) 70 #[.slice (some ⟨w.heap.size + 1, 0, none⟩) 1 1, .slice (some ⟨w.heap.size + 1 + 1, 0, none⟩) 2 2] := (BlkAt.new3 w (.cells spkA 57) (.cells spkA 57) (.cells spkR 62) _ 70).alloc _
  have ha := apps_lit (l := [(exTeam, ⟨#[97]⟩)]) h1
  have hr := rules_lit (l := [exR1, exR2]) h2 (fun x hx => by
    rcases List.mem_cons.1 hx with rfl | hx
    · exact ⟨rfl, fun i p hp => by simp [exR1] at hp⟩
    · obtain rfl : x = exR2 := by simpa using hx
      exact ⟨rfl, fun i p hp => by simp [exR2] at hp⟩)
  refine ⟨⟨((((BlkAt.new w spkA 57).alloc _).alloc _).alloc _).alloc _, ?_, ⟨⟨[(.slice (some ⟨w.heap.size + 1, 0, none⟩) 1 1, .slice (some ⟨w.heap.size + 1 + 1, 0, none⟩) 2 2)], pairs_lit h3, rfl, fun i d hd => ?_⟩, by decide, fun d hd => ?_⟩⟩, Bt (below_alloc4 _ _ _ _ _) (below_alloc _ _)⟩
  · have := BlkAt.new ((((w.alloc (.cells spkA 57)).alloc (.cells spkA 57)).alloc (.cells spkR 62)).alloc (.cells #[.slice (some ⟨w.heap.size + 1, 0, none⟩) 1 1, .slice (some ⟨w.heap.size + 1 + 1, 0, none⟩) 2 2] 70)) #[.slice (some ⟨w.heap.size + 1 + 1 + 1, 0, none⟩) 1 1, .slice none 0 0] 55
    simp only [World.size_alloc] at this
    exact this
  · match i, hd with
    | 0, hd =>
      simp at hd; subst hd
      exact ⟨_, rfl, ⟨_, _, rfl, ha⟩, ⟨_, _, rfl, hr⟩⟩
  · obtain rfl : d = exDt := by simpa using hd
    refine ⟨by decide, by decide, fun x hx => ?_⟩
    rcases List.mem_cons.1 hx with rfl | hx
    · exact ruZ_of (by decide) (by decide) (by decide) rfl
    · obtain rfl : x = exR2 := by simpa using hx
      exact ruZ_of (by decide) (by decide) (by decide) rfl
/-- The program's variables are laid. -/
structure LaidAll (w : World) : Prop where
  h : Handle w
  u : Utf8Laid w
  c : ClassLaid w
  m : MaxAt w
theorem LaidAll.below {w w' : World} (h : LaidAll w) (hb : Below w.heap.size w w') : LaidAll w' := ⟨h.h.below hb, h.u.below hb, h.c.below hb, h.m.below hb⟩
theorem spk_verdict (p : ByteArray) (n : Nat) (z : Int) (hz : ((n : Nat) : Int) = z) (hp : p.size ≤ 1000000) (hn : verdictN [exDt] (exTeam, ⟨#[97]⟩) [] (exU p) = n) (W : World) (g : Nat) (h : SpkAt W g) (hl : LaidAll W) :
    Calls Tryz.prog 24 #[.agg #[.slice (some ⟨g + 1 + 1 + 1, 0, none⟩) 1 1, .slice none 0 0], .agg #[.string ⟨#[65, 66, 67, 68, 69, 49, 50, 51, 52, 53]⟩, .string ⟨#[97]⟩], .agg #[.string ⟨#[104, 116, 116, 112, 115]⟩, .int .i64 1, .string ⟨#[104]⟩, .int .i64 443, .string p, .string ⟨#[]⟩, .string ⟨#[]⟩, .bool false, .bool false]] W fun e w' => e = .returned (.int .i64 z) ∧ Below W.heap.size W w' := by
  have := route_Verdict (some ⟨g + 1 + 1 + 1, 0, none⟩) 1 [exDt] (exTeam, ⟨#[97]⟩) (exU p) none 0 [] W ⟨hl.u, hl.c, hl.m, ⟨[], fun i v h => by simp at h, rfl, fun i v h => by simp at h⟩, by decide, fun v hv => by cases hv⟩ hl.h h.dets ⟨hp, by show (0 : Nat) ≤ 1000000; omega, by show (0 : Nat) ≤ 1000000; omega⟩
  rw [hn, hz] at this
  exact this
theorem spk_parse (s p : ByteArray) (h : UrlT s ⟨#[104, 116, 116, 112, 115]⟩ 5 9 ⟨#[104]⟩ p) (W : World) :
    Calls Tryz.prog 39 #[.string s] W fun e w' => e = .returned (.tuple #[.agg #[.string ⟨#[104, 116, 116, 112, 115]⟩, .int .i64 1, .string ⟨#[104]⟩, .int .i64 443, .string p, .string ⟨#[]⟩, .string ⟨#[]⟩, .bool false, .bool false], .agg #[.int .i64 0, .int .i64 0, .int .i64 0]]) ∧ Below W.heap.size W w' := by
  have := ref14_Parse_url s ⟨#[104, 116, 116, 112, 115]⟩ 5 9 ⟨#[104]⟩ p W h
  rw [show ownN ⟨#[104, 116, 116, 112, 115]⟩ = 443 by decide +kernel] at this
  exact this
set_option maxHeartbeats 12800000 in
set_option maxRecDepth 100000 in
theorem speaks21 (w : World) (hl : LaidAll w) :
    Calls Tryz.prog 21 #[] w fun e w' => e = .returned (.bool true) ∧ Below w.heap.size w w' := by
  have P1 := Lib.hid (fun W => spk_parse exS1 _ ex_s1 W)
  have P2 := Lib.hid (fun W => spk_parse exS2 _ ex_s2 W)
  have P3 := Lib.hid (fun W => spk_parse exS3 _ ex_s3 W)
  unfold exS1 at P1
  unfold exS2 at P2
  unfold exS3 at P3
  have V1 := Lib.hid (fun W g h hl => spk_verdict _ 2 2 rfl (by decide) ex_v1 W g h hl)
  have V2 := Lib.hid (fun W g h hl => spk_verdict _ 1 1 rfl (by decide) ex_v2 W g h hl)
  have V3 := Lib.hid (fun W g h hl => spk_verdict _ 0 0 rfl (by decide) ex_v3 W g h hl)
  obtain ⟨hs5, hb5⟩ := spk_lay w
  have HL := Lib.hid (fun W (hW : Below w.heap.size w W) => hl.below hW)
  obtain ⟨W5, hW5⟩ : ∃ W, W = spkW w := ⟨_, rfl⟩
  rw [← hW5] at hs5 hb5
  unfold spkW spkA spkR at hW5
  clear hl
  go_enter Tryz.func21, Tryz.ntmps21
  have HW5 := Lib.hid hW5
  clear hW5
  go_wp2_with fail
  rw [← HW5.out]
  clear HW5
  refine (P1.out _).mono ?_
  rintro e w6 ⟨rfl, hb6⟩
  have hB6 := Bt (Bt hb5 hb6) (below_alloc2 w6 (.cells #[.string ⟨#[104, 116, 116, 112, 115]⟩, .int .i64 1, .string ⟨#[104]⟩, .int .i64 443, .string ⟨#[47, 98, 117, 121, 47, 120]⟩, .string ⟨#[]⟩, .string ⟨#[]⟩, .bool false, .bool false] 59) (.cells #[.int .i64 0, .int .i64 0, .int .i64 0] 95))
  have hS6 := (hs5.below hb6).below (below_alloc2 w6 (.cells #[.string ⟨#[104, 116, 116, 112, 115]⟩, .int .i64 1, .string ⟨#[104]⟩, .int .i64 443, .string ⟨#[47, 98, 117, 121, 47, 120]⟩, .string ⟨#[]⟩, .string ⟨#[]⟩, .bool false, .bool false] 59) (.cells #[.int .i64 0, .int .i64 0, .int .i64 0] 95))
  have hU6 := (BlkAt.new w6 #[.string ⟨#[104, 116, 116, 112, 115]⟩, .int .i64 1, .string ⟨#[104]⟩, .int .i64 443, .string ⟨#[47, 98, 117, 121, 47, 120]⟩, .string ⟨#[]⟩, .string ⟨#[]⟩, .bool false, .bool false] 59).alloc (.cells #[.int .i64 0, .int .i64 0, .int .i64 0] 95)
  clear hb6 hs5 hb5 P1 
  go_wp2_with fail
  generalize hq : (w6.alloc (.cells #[.string ⟨#[104, 116, 116, 112, 115]⟩, .int .i64 1, .string ⟨#[104]⟩, .int .i64 443, .string ⟨#[47, 98, 117, 121, 47, 120]⟩, .string ⟨#[]⟩, .string ⟨#[]⟩, .bool false, .bool false] 59)).alloc (.cells #[.int .i64 0, .int .i64 0, .int .i64 0] 95) = W6 at *
  clear hq
  generalize hq : w6.heap.size = g6 at *
  clear hq
  refine (P2.out _).mono ?_
  rintro e w7 ⟨rfl, hb7⟩
  have hB7 := Bt (Bt hB6 hb7) (below_alloc2 w7 (.cells #[.string ⟨#[104, 116, 116, 112, 115]⟩, .int .i64 1, .string ⟨#[104]⟩, .int .i64 443, .string ⟨#[47, 98, 117, 121, 47, 121]⟩, .string ⟨#[]⟩, .string ⟨#[]⟩, .bool false, .bool false] 59) (.cells #[.int .i64 0, .int .i64 0, .int .i64 0] 95))
  have hS7 := (hS6.below hb7).below (below_alloc2 w7 (.cells #[.string ⟨#[104, 116, 116, 112, 115]⟩, .int .i64 1, .string ⟨#[104]⟩, .int .i64 443, .string ⟨#[47, 98, 117, 121, 47, 121]⟩, .string ⟨#[]⟩, .string ⟨#[]⟩, .bool false, .bool false] 59) (.cells #[.int .i64 0, .int .i64 0, .int .i64 0] 95))
  have hU7 := (BlkAt.new w7 #[.string ⟨#[104, 116, 116, 112, 115]⟩, .int .i64 1, .string ⟨#[104]⟩, .int .i64 443, .string ⟨#[47, 98, 117, 121, 47, 121]⟩, .string ⟨#[]⟩, .string ⟨#[]⟩, .bool false, .bool false] 59).alloc (.cells #[.int .i64 0, .int .i64 0, .int .i64 0] 95)
  have hU6_7 := (hU6.below hb7).below (below_alloc2 w7 (.cells #[.string ⟨#[104, 116, 116, 112, 115]⟩, .int .i64 1, .string ⟨#[104]⟩, .int .i64 443, .string ⟨#[47, 98, 117, 121, 47, 121]⟩, .string ⟨#[]⟩, .string ⟨#[]⟩, .bool false, .bool false] 59) (.cells #[.int .i64 0, .int .i64 0, .int .i64 0] 95))
  clear hb7 hS6 hB6 P2 hU6
  go_wp2_with fail
  generalize hq : (w7.alloc (.cells #[.string ⟨#[104, 116, 116, 112, 115]⟩, .int .i64 1, .string ⟨#[104]⟩, .int .i64 443, .string ⟨#[47, 98, 117, 121, 47, 121]⟩, .string ⟨#[]⟩, .string ⟨#[]⟩, .bool false, .bool false] 59)).alloc (.cells #[.int .i64 0, .int .i64 0, .int .i64 0] 95) = W7 at *
  clear hq
  generalize hq : w7.heap.size = g7 at *
  clear hq
  refine (P3.out _).mono ?_
  rintro e w8 ⟨rfl, hb8⟩
  have hB8 := Bt (Bt hB7 hb8) (below_alloc2 w8 (.cells #[.string ⟨#[104, 116, 116, 112, 115]⟩, .int .i64 1, .string ⟨#[104]⟩, .int .i64 443, .string ⟨#[47]⟩, .string ⟨#[]⟩, .string ⟨#[]⟩, .bool false, .bool false] 59) (.cells #[.int .i64 0, .int .i64 0, .int .i64 0] 95))
  have hS8 := (hS7.below hb8).below (below_alloc2 w8 (.cells #[.string ⟨#[104, 116, 116, 112, 115]⟩, .int .i64 1, .string ⟨#[104]⟩, .int .i64 443, .string ⟨#[47]⟩, .string ⟨#[]⟩, .string ⟨#[]⟩, .bool false, .bool false] 59) (.cells #[.int .i64 0, .int .i64 0, .int .i64 0] 95))
  have hU8 := (BlkAt.new w8 #[.string ⟨#[104, 116, 116, 112, 115]⟩, .int .i64 1, .string ⟨#[104]⟩, .int .i64 443, .string ⟨#[47]⟩, .string ⟨#[]⟩, .string ⟨#[]⟩, .bool false, .bool false] 59).alloc (.cells #[.int .i64 0, .int .i64 0, .int .i64 0] 95)
  have hU6_8 := (hU6_7.below hb8).below (below_alloc2 w8 (.cells #[.string ⟨#[104, 116, 116, 112, 115]⟩, .int .i64 1, .string ⟨#[104]⟩, .int .i64 443, .string ⟨#[47]⟩, .string ⟨#[]⟩, .string ⟨#[]⟩, .bool false, .bool false] 59) (.cells #[.int .i64 0, .int .i64 0, .int .i64 0] 95))
  have hU7_8 := (hU7.below hb8).below (below_alloc2 w8 (.cells #[.string ⟨#[104, 116, 116, 112, 115]⟩, .int .i64 1, .string ⟨#[104]⟩, .int .i64 443, .string ⟨#[47]⟩, .string ⟨#[]⟩, .string ⟨#[]⟩, .bool false, .bool false] 59) (.cells #[.int .i64 0, .int .i64 0, .int .i64 0] 95))
  clear hb8 hS7 hB7 P3 hU6_7 hU7
  go_upto_region 6 with (fail)
  generalize hq : (w8.alloc (.cells #[.string ⟨#[104, 116, 116, 112, 115]⟩, .int .i64 1, .string ⟨#[104]⟩, .int .i64 443, .string ⟨#[47]⟩, .string ⟨#[]⟩, .string ⟨#[]⟩, .bool false, .bool false] 59)).alloc (.cells #[.int .i64 0, .int .i64 0, .int .i64 0] 95) = W8 at *
  clear hq
  generalize hq : w8.heap.size = g8 at *
  clear hq
  have c0 := hS8.assoc.cell 0 _ rfl
  have c1 := hS8.assoc.cell 1 _ rfl
  have a0 := hS8.app.cell 0 _ rfl
  have a1 := hS8.app.cell 1 _ rfl
  have u0 := hU6_8.cell 0 _ rfl
  have u1 := hU6_8.cell 1 _ rfl
  have u2 := hU6_8.cell 2 _ rfl
  have u3 := hU6_8.cell 3 _ rfl
  have u4 := hU6_8.cell 4 _ rfl
  have u5 := hU6_8.cell 5 _ rfl
  have u6 := hU6_8.cell 6 _ rfl
  have u7 := hU6_8.cell 7 _ rfl
  have u8 := hU6_8.cell 8 _ rfl
  go_wp2_with fail
  refine (V1.out _ _ hS8 (HL.out _ hB8)).mono ?_
  rintro e w9 ⟨rfl, hb9⟩
  have hB9 := Bt hB8 hb9
  have hS9 := hS8.below hb9
  have hU7_9 := hU7_8.below hb9
  have hU8_9 := hU8.below hb9
  clear c0 c1 a0 a1 u0 u1 u2 u3 u4 u5 u6 u7 u8
  clear hb9 hB8 hS8 hU7_8 hU8 hU6_8 V1
  have c0 := hS9.assoc.cell 0 _ rfl
  have c1 := hS9.assoc.cell 1 _ rfl
  have a0 := hS9.app.cell 0 _ rfl
  have a1 := hS9.app.cell 1 _ rfl
  have u0 := hU7_9.cell 0 _ rfl
  have u1 := hU7_9.cell 1 _ rfl
  have u2 := hU7_9.cell 2 _ rfl
  have u3 := hU7_9.cell 3 _ rfl
  have u4 := hU7_9.cell 4 _ rfl
  have u5 := hU7_9.cell 5 _ rfl
  have u6 := hU7_9.cell 6 _ rfl
  have u7 := hU7_9.cell 7 _ rfl
  have u8 := hU7_9.cell 8 _ rfl
  go_wp2_with fail
  refine (V2.out _ _ hS9 (HL.out _ hB9)).mono ?_
  rintro e w10 ⟨rfl, hb10⟩
  have hB10 := Bt hB9 hb10
  have hS10 := hS9.below hb10
  have hU8_10 := hU8_9.below hb10
  clear c0 c1 a0 a1 u0 u1 u2 u3 u4 u5 u6 u7 u8
  clear hb10 hB9 hS9 hU8_9 hU7_9 V2
  have c0 := hS10.assoc.cell 0 _ rfl
  have c1 := hS10.assoc.cell 1 _ rfl
  have a0 := hS10.app.cell 0 _ rfl
  have a1 := hS10.app.cell 1 _ rfl
  have u0 := hU8_10.cell 0 _ rfl
  have u1 := hU8_10.cell 1 _ rfl
  have u2 := hU8_10.cell 2 _ rfl
  have u3 := hU8_10.cell 3 _ rfl
  have u4 := hU8_10.cell 4 _ rfl
  have u5 := hU8_10.cell 5 _ rfl
  have u6 := hU8_10.cell 6 _ rfl
  have u7 := hU8_10.cell 7 _ rfl
  have u8 := hU8_10.cell 8 _ rfl
  go_wp2_with fail
  refine (V3.out _ _ hS10 (HL.out _ hB10)).mono ?_
  rintro e w11 ⟨rfl, hb11⟩
  have hB11 := Bt hB10 hb11
  clear c0 c1 a0 a1 u0 u1 u2 u3 u4 u5 u6 u7 u8
  clear hS10 hU8_10 hb11 hB10 V3
  go_wp2_with fail
  go_ret
  exact ⟨rfl, hB11⟩
end Go.Proofs.YtibhohpamnpkcaaGreatDoor

/- The law's own check that subst speaks. -/
namespace Go.Proofs.YtibhohpamnpkcaaGreatDoor
open Go.RowKit

def spV : List SVar := [(⟨#[102, 111, 111, 100]⟩, [⟨#[112, 105, 122, 122, 97]⟩, ⟨#[116, 97, 99, 111, 42]⟩])]
def spP : ByteArray := ⟨#[47, 36, 40, 108, 97, 110, 103, 41, 47, 36, 40, 102, 111, 111, 100, 41, 47, 42]⟩
theorem sp19_a : subM spP spV ⟨#[47, 101, 110, 47, 116, 97, 99, 111, 115, 47, 49]⟩ false = true := by decide +kernel
theorem sp19_b : subM spP spV ⟨#[47, 69, 78, 47, 112, 105, 122, 122, 97, 47]⟩ false = false := by decide +kernel
theorem sp19_c : subM spP spV ⟨#[47, 69, 78, 47, 112, 105, 122, 122, 97, 47]⟩ true = true := by decide +kernel
theorem strs_two {w : World} {b : Nat} {t : TypeId} {x y : ByteArray} (h : w.heap[b]? = some (.cells #[.string x, .string y] t (0, 0))) : StrsV w (.slice (some ⟨b, 0, none⟩) 2 2) [x, y] :=
  ⟨_, _, rfl, Nat.le_refl _, fun i s hs => by
    match i, hs with
    | 0, hs => cases hs; exact ⟨b, 0, rfl, lt_of_block h, cell_of_row _ _ 0 _ _ _ h⟩
    | 1, hs => cases hs; exact ⟨b, 0, rfl, lt_of_block h, cell_of_row _ _ 1 _ _ _ h⟩⟩
theorem strs_single {w : World} {b : Nat} {t : TypeId} {x : ByteArray} (h : w.heap[b]? = some (.cells #[.string x] t (0, 0))) : StrsV w (.slice (some ⟨b, 0, none⟩) 1 1) [x] :=
  ⟨_, _, rfl, Nat.le_refl _, fun i s hs => by
    match i, hs with
    | 0, hs => cases hs; exact ⟨b, 0, rfl, lt_of_block h, cell_of_row _ _ 0 _ _ _ h⟩⟩
end Go.Proofs.YtibhohpamnpkcaaGreatDoor

/- The law's own look at variables: are they more than are looked at? -/
namespace Go.Proofs.YtibhohpamnpkcaaGreatDoor
open Go.RowKit

def SmallV (v : SVar) : Prop := v.2.length ≤ 4 ∧ v.1.size ≤ 100 ∧ ∀ s ∈ v.2, s.size ≤ 20
theorem take_next {α : Type} {P : α → Prop} {l : List α} {i : Nat} {x : α} (h : l[i]? = some x) (hp : P x) (hall : ∀ y ∈ l.take i, P y) : ∀ y ∈ l.take (i + 1), P y := by
  intro y hy
  rw [List.take_add_one, h] at hy
  rcases List.mem_append.1 hy with h2 | h2
  · exact hall y h2
  · obtain rfl : y = x := by simpa using h2
    exact hp
def GreatPost (vars : List SVar) (w : World) (e : Ending) (w' : World) : Prop := (e = .returned (.bool true) ∨ (e = .returned (.bool false) ∧ vars.length ≤ 5 ∧ ∀ v ∈ vars, SmallV v)) ∧ Below w.heap.size w w'
end Go.Proofs.YtibhohpamnpkcaaGreatDoor
