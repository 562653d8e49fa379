/- Rows of numbers that came in: rows of bytes, rows of ints. -/
import Derived.Test.YteabhblbefglpaaDoorQueryFindsM1
import Derived.Test.YteabhblbefglpaaDoorQueryFindsM2
import Derived.Deep.Strs
import Derived.OpenShut
import Derived.Test.YteabhblbefglpaaDoorQueryFindsM11
import Derived.Test.YteabhblbefglpaaDoorQueryFindsM12
import Derived.Test.YteabhblbefglpaaDoorQueryFindsM18

namespace Go.Proofs.YteabhblbefglpaaDoor
open Go.RowKit

/-- A slice of numbers that came in: nil, or a row of so many cells, each fitting its kind. -/
def IsRow (k : IntKind) (w : World) (a : Option Addr) (len cap : Nat) (zs : List Int) : Prop :=
  (a = none ∧ len = 0 ∧ cap = 0 ∧ zs = []) ∨
  ∃ x, a = some x ∧ len ≤ cap ∧ cap ≤ maxLen ∧ zs.length = cap ∧ (∀ i, i < zs.length → w.cell? (x.add i) = some (.int k (zs.getD i 0))) ∧ ∀ n ∈ zs, (Lit.int k n).wf = true

theorem spot_none {w : World} {x : Addr} {v : Value} (h : w.cell? (x.add 0) = some v) : x = ⟨x.block, x.off, none⟩ ∧ x.block < w.heap.size := by
  have hb := World.block_lt_of_cell? w _ h
  cases x with
  | mk b o s =>
    cases s with
    | none => exact ⟨rfl, hb⟩
    | some q =>
      simp only [World.cell?, Addr.add] at h
      split at h <;> simp at h

theorem IsRow.bytes {w : World} {a : Option Addr} {len cap : Nat} {zs : List Int} (h : IsRow .u8 w a len cap zs) : ∃ s : ByteArray, s.size = len ∧ BytesSl w (.slice a len cap) s := by
  rcases h with ⟨rfl, rfl, rfl, rfl⟩ | ⟨x, rfl, hl, hm, hz, hcell, hwz⟩
  · exact ⟨ByteArray.empty, rfl, .inl ⟨rfl, none, 0, rfl⟩⟩
  · have hsz : (⟨((zs.take len).map fun n => UInt8.ofNat n.toNat).toArray⟩ : ByteArray).size = len := by
      show (((zs.take len).map fun n => UInt8.ofNat n.toNat).toArray).size = _
      simp; omega
    refine ⟨⟨((zs.take len).map fun n => UInt8.ofNat n.toNat).toArray⟩, hsz, ?_⟩
    by_cases h0 : len = 0
    · exact .inl ⟨hsz.trans h0, some x, cap, by rw [h0]⟩
    · obtain ⟨hx, hb⟩ := spot_none (hcell 0 (by omega))
      refine .inr ⟨x.block, x.off, cap, by rw [hsz, ← hx], by rw [hsz]; exact hl, hm, hb, fun j hj => ?_⟩
      rw [hsz] at hj
      have hc := hcell j (by omega)
      have hadd : x.add j = ⟨x.block, x.off + j, none⟩ := by cases x; cases hx; simp [Addr.add]
      rw [hadd] at hc
      rw [hc]
      have hjz : j < zs.length := by omega
      have hw := hwz zs[j] (List.getElem_mem _)
      simp [Lit.wf, IntKind.min, IntKind.max, IntKind.signed, IntKind.bits] at hw
      simp only [byteAt, List.getD, List.getElem?_map, List.getElem?_take, if_pos hj, List.getElem?_eq_getElem hjz, Option.map_some, Option.getD_some]
      rw [UInt8.toNat_ofNat_of_lt' (by have : zs[j].toNat < 256 := by omega
                                       exact this), Int.toNat_of_nonneg hw.1]

/-- A slice of ints that reads as these numbers. -/
def IntsSl (w : World) (v : Value) (l : List Int) : Prop :=
  (l = [] ∧ ∃ a cap, v = .slice a 0 cap) ∨ ∃ b off cap, v = .slice (some ⟨b, off, none⟩) l.length cap ∧ l.length ≤ cap ∧ cap ≤ maxLen ∧ b < w.heap.size ∧ ∀ j, j < l.length → w.cell? ⟨b, off + j, none⟩ = some (.int .i64 (l.getD j 0))
theorem IntsSl.below {w w' : World} {v : Value} {l : List Int} (h : IntsSl w v l) (hb : Below w.heap.size w w') : IntsSl w' v l := by
  rcases h with h | ⟨b, off, cap, e, h1, h2, h3, h4⟩
  · exact .inl h
  · exact .inr ⟨b, off, cap, e, h1, h2, Nat.lt_of_lt_of_le h3 hb.size, fun j hj => (hb.cell (p := ⟨b, off + j, none⟩) h3).trans (h4 j hj)⟩
theorem IsRow.ints {w : World} {a : Option Addr} {len cap : Nat} {zs : List Int} (h : IsRow .i64 w a len cap zs) : ∃ l : List Int, l.length = len ∧ IntsSl w (.slice a len cap) l ∧ ∀ n ∈ l, (Lit.int .i64 n).wf = true := by
  rcases h with ⟨rfl, rfl, rfl, rfl⟩ | ⟨x, rfl, hl, hm, hz, hcell, hwz⟩
  · exact ⟨[], rfl, .inl ⟨rfl, none, 0, rfl⟩, fun _ h => by cases h⟩
  · have hlen : (zs.take len).length = len := by simp; omega
    refine ⟨zs.take len, hlen, ?_, fun n hn => hwz n (List.mem_of_mem_take hn)⟩
    by_cases h0 : len = 0
    · exact .inl ⟨by rw [h0]; rfl, some x, cap, by rw [h0]⟩
    · obtain ⟨hx, hb⟩ := spot_none (hcell 0 (by omega))
      refine .inr ⟨x.block, x.off, cap, by rw [hlen, ← hx], by rw [hlen]; exact hl, hm, hb, fun j hj => ?_⟩
      rw [hlen] at hj
      have hc := hcell j (by omega)
      have hadd : x.add j = ⟨x.block, x.off + j, none⟩ := by cases x; cases hx; simp [Addr.add]
      rw [hadd] at hc
      rw [hc]
      simp [List.getD, hj]
end Go.Proofs.YteabhblbefglpaaDoor

/- A slice of items that came in. -/
namespace Go.Proofs.YteabhblbefglpaaDoor
open Go.RowKit Go.ChangeShapes Go.WideShapes

def sizedI (l : List It) : Prop := ∀ p ∈ l, p.name.size ≤ maxLen ∧ p.value.size ≤ maxLen
theorem cells_item : Tryd.prog.cellsOf 94 = 3 := by kernel_rfl
theorem cells_str : Tryd.prog.cellsOf 9 = 1 := by kernel_rfl
theorem cells_bool : Tryd.prog.cellsOf 4 = 1 := by kernel_rfl
set_option maxRecDepth 100000 in
theorem open_items {H : Type} {enc : TypeId × Value → H} {W : World} {base : Nat} {spare : Nat → Bool} {held : Bool} {fuel : Nat} {cs : List Value} {x : DataW H × List MemPlace} (h : DataW.trod enc Tryd.prog W base spare held fuel 52 cs = some x) :
    ∃ (a : Option Addr) (l : List It) (cap : Nat), cs = [.slice a l.length cap] ∧ l.length ≤ cap ∧ cap ≤ maxLen ∧ ItemsSl W a l ∧ sizedI l := by
  rcases Go.Deep.open_slice Tryd.underlying52 h with ⟨rfl, _⟩ | ⟨a, len, cap, m, n, D, Pl, rfl, hb, hl, hm, hmm, _, hx⟩
  · exact ⟨none, [], 0, rfl, Nat.le_refl _, Nat.zero_le _, fun i p h => by simp at h, fun p h => by cases h⟩
  have hlm : len ≤ m := by rw [hmm]; split <;> omega
  by_cases hlen0 : len = 0
  · subst hlen0
    exact ⟨some a, [], cap, rfl, hl, hm, fun i p h => by simp at h, fun p h => by cases h⟩
  obtain ⟨hspot, hblk⟩ : a = ⟨a.block, a.off, none⟩ ∧ a.block < W.heap.size := by
    obtain ⟨cs', h1, h2⟩ := hx 0 (by omega)
    rw [cells_item] at h1
    obtain ⟨_, hlen, hcell⟩ := World.cells?_some h1
    have c0 := hcell 0 (by omega)
    rw [Go.Deep.add_add, Nat.zero_mul, Nat.add_zero] at c0
    match cs', hlen with
    | [v0, v1, v2], _ => exact spot_none (c0.trans rfl)
  obtain ⟨ab, ao, asp⟩ := a
  obtain rfl : asp = none := by injection hspot
  dsimp only at hblk
  have each : ∀ i, i < len → ∃ p : It, (∃ b off, (⟨ab, ao, none⟩ : Addr) = ⟨b, off, none⟩ ∧ b < W.heap.size ∧
      W.cell? ⟨b, off + i * 3, none⟩ = some (.string p.name) ∧ W.cell? ⟨b, off + i * 3 + 1, none⟩ = some (.string p.value) ∧ W.cell? ⟨b, off + i * 3 + 2, none⟩ = some (.bool p.has)) ∧ p.name.size ≤ maxLen ∧ p.value.size ≤ maxLen := by
    intro i hi
    obtain ⟨cs', h1, h2⟩ := hx i (by omega)
    rw [cells_item] at h1
    obtain ⟨_, hlen, hcell⟩ := World.cells?_some h1
    obtain ⟨y0, y1, y2, k, _, _, g0, g1, g2⟩ := Go.Deep.trod_struct3 Tryd.underlying94 h2
    match cs', hlen with
    | [v0, v1, v2], _ =>
      simp [cells_str, cells_bool] at g0 g1 g2
      obtain ⟨s0, e0, _, z0⟩ := DataW.trod_string Tryd.underlying9 g0
      obtain ⟨s1, e1, _, z1⟩ := DataW.trod_string Tryd.underlying9 g1
      obtain ⟨b2, e2, _⟩ := DataW.trod_bool Tryd.underlying4 g2
      simp at e0 e1 e2
      subst e0 e1 e2
      have c0 := hcell 0 (by omega)
      have c1 := hcell 1 (by omega)
      have c2 := hcell 2 (by omega)
      rw [Go.Deep.add_add] at c0 c1 c2
      rw [Addr.add_lit] at c0 c1 c2
      refine ⟨⟨s0, s1, b2⟩, ⟨ab, ao, rfl, hblk, ?_, ?_, ?_⟩, z0, z1⟩
      · simpa using c0
      · simpa [Nat.add_assoc] using c1
      · simpa [Nat.add_assoc] using c2
  haveI : Inhabited It := ⟨⟨ByteArray.empty, ByteArray.empty, false⟩⟩
  obtain ⟨f, hf⟩ := Go.Deep.choose_lt each
  have hlen : ((List.range len).map f).length = len := by simp
  refine ⟨some ⟨ab, ao, none⟩, (List.range len).map f, cap, by rw [hlen], by rw [hlen]; exact hl, hm, fun i p hp => ?_, fun p hp => ?_⟩
  · have hi : i < len := by have := (List.getElem?_eq_some_iff.1 hp).1; simpa using this
    have : p = f i := by simpa [hi] using hp.symm
    subst this
    obtain ⟨⟨b, off, e, h1, h2, h3, h4⟩, _⟩ := hf i hi
    exact ⟨b, off, congrArg some e, h1, h2, h3, h4⟩
  · obtain ⟨i, hi, rfl⟩ := List.mem_map.1 hp
    exact (hf i (by simpa using hi)).2
end Go.Proofs.YteabhblbefglpaaDoor

/- The walk of QueryFinds. -/
namespace Go.Proofs.YteabhblbefglpaaDoor
open Go.RowKit

theorem wrap64_in2 (x : Int) (h1 : -9223372036854775808 ≤ x) (h2 : x ≤ 9223372036854775807) : wrap64 x = x := by
  unfold wrap64; omega
theorem ref_SameOne (a1 a2 : Option Addr) (c1 c2 : Nat) (l : List ByteArray) (w : World) (h1 : RowSl w a1 (l.map strV)) (h2 : RowSl w a2 (l.map strV)) (hn : l.length ≤ 16777216) :
    Calls Tryd.prog 39 #[.slice a1 l.length c1, .slice a2 l.length c2] w fun e w' => e = .returned (.bool true) ∧ Below w.heap.size w w' :=
  (ref_SameR a1 a2 c1 c2 l l w h1 h2 hn hn).mono fun e w' ⟨he, m, hm⟩ => ⟨by rw [he, decide_eq_true rfl], by subst hm; exact below_drewN (Below.refl _ _) m⟩
set_option maxHeartbeats 6400000 in
set_option maxRecDepth 100000 in
theorem walkQueryFinds (pa : Option Addr) (la : List It) (ca : Nat) (pp : Option Addr) (lp : List It) (cp : Nat) (n : ByteArray) (f : Bool) (w : World) (hg : Handle w) (hU : Utf8Laid w)
    (hca : la.length ≤ ca) (hcam : ca ≤ maxLen) (ha : ItemsSl w pa la) (za : sizedI la) (hcp : lp.length ≤ cp) (hcpm : cp ≤ maxLen) (hp : ItemsSl w pp lp) (zp : sizedI lp) (_ : n.size ≤ maxLen) :
    Calls Tryd.prog 12 #[.slice pa la.length ca, .slice pp lp.length cp, .string n, .bool f] w fun e w' => e = .returned (.bool true) ∧ Below w.heap.size w w' := by
  have g1 := Lib.hid (fun W hb => query_great pa ca la W (ha.below (w' := W) hb) za (by omega))
  have g3 := Lib.hid (fun W hb' => query_great pp cp lp W (hp.below (w' := W) hb') zp (by omega))
  unfold maxLen at hcam hcpm
  have hga := Lib.hid (fun h => great_no (l := la) h)
  have hgp := Lib.hid (fun h => great_no (l := lp) h)
  generalize greatI la = ga at *
  generalize greatI lp = gp at *
  have HA := Lib.hid ha
  have HP := Lib.hid hp
  have HU := Lib.hid hU
  clear ha hp hU
  cases ga with
  | true =>
    go_enter Tryd.func12, Tryd.ntmps12
    go_wp2_with fail
    refine (speaks16 _ hg HU.out).mono ?_
    rintro e w1 ⟨rfl, hb1⟩
    go_wp2_with fail
    refine (g1.out _ hb1).mono ?_
    rintro e w2 ⟨rfl, hb2⟩
    have hb12 := Bt hb1 hb2
    go_wp2_with fail
    go_ret
    exact ⟨rfl, hb12⟩
  | false =>
  cases gp with
  | true =>
    go_enter Tryd.func12, Tryd.ntmps12
    go_wp2_with fail
    refine (speaks16 _ hg HU.out).mono ?_
    rintro e w1 ⟨rfl, hb1⟩
    go_wp2_with fail
    refine (g1.out _ hb1).mono ?_
    rintro e w2 ⟨rfl, hb2⟩
    have hb12 := Bt hb1 hb2
    go_wp2_with fail
    refine (g3.out _ hb12).mono ?_
    rintro e w3 ⟨rfl, hb3⟩
    have hb13 := Bt hb12 hb3
    go_wp2_with fail
    go_ret
    exact ⟨rfl, hb13⟩
  | false =>
  obtain ⟨la3, laz⟩ := hga.out rfl
  obtain ⟨lp3, lpz⟩ := hgp.out rfl
  clear hga hgp
  have haz : ∀ x ∈ la, x.value.size ≤ 16777216 := fun x hx => by have := (laz x hx).2; omega
  have hpz : ∀ x ∈ lp, x.value.size ≤ 16777216 := fun x hx => by have := (lpz x hx).2; omega
  have HAZ := Lib.hid haz
  have HPZ := Lib.hid hpz
  clear haz hpz laz lpz
  have hq : (la.length : Int) * (lp.length : Int) ≤ 90000 := by
    have h1 : la.length * lp.length ≤ 300 * 300 := Nat.mul_le_mul la3 lp3
    have : ((la.length * lp.length : Nat) : Int) ≤ ((300 * 300 : Nat) : Int) := by exact_mod_cast h1
    simpa using this
  have hnn : 0 ≤ (la.length : Int) * (lp.length : Int) := by
    have : (0 : Int) ≤ ((la.length * lp.length : Nat) : Int) := Int.natCast_nonneg _
    simpa using this
  by_cases hprod : 400 < (la.length : Int) * (lp.length : Int)
  · have hwm : 400 < wrap64 ((la.length : Int) * (lp.length : Int)) := by
      rw [wrap64_in2 _ (by omega) (by omega)]; exact hprod
    clear hprod hq hnn
    go_enter Tryd.func12, Tryd.ntmps12
    go_wp2_with fail
    refine (speaks16 _ hg HU.out).mono ?_
    rintro e w1 ⟨rfl, hb1⟩
    go_wp2_with fail
    refine (g1.out _ hb1).mono ?_
    rintro e w2 ⟨rfl, hb2⟩
    have hb12 := Bt hb1 hb2
    go_wp2_with fail
    refine (g3.out _ hb12).mono ?_
    rintro e w3 ⟨rfl, hb3⟩
    have hb13 := Bt hb12 hb3
    go_wp2_with fail
    go_ret
    exact ⟨rfl, hb13⟩
  · have hwm : ¬ 400 < wrap64 ((la.length : Int) * (lp.length : Int)) := by
      rw [wrap64_in2 _ (by omega) (by omega)]; exact hprod
    clear hprod hq hnn
    have hvl := values_len la n
    have hnl := names_len la la.length
    have cS := Lib.hid (fun a1 a2 c1 c2 W h1 h2 => ref_SameOne a1 a2 c1 c2 (valuesB la n) W h1 h2 (by omega))
    have cT := Lib.hid (fun a1 a2 c1 c2 W h1 h2 => ref_SameOne a1 a2 c1 c2 (namesK la la.length) W h1 h2 (by omega))
    have cV := Lib.hid (fun W hb => query_Values pa ca la n W (HA.out.below (w' := W) hb) (by omega))
    have cRV := Lib.hid (fun W hb => ref16_Values pa ca la n W (HA.out.below (w' := W) hb) (by omega))
    have cN := Lib.hid (fun W hb => query_Names pa ca la W (HA.out.below (w' := W) hb) (by omega))
    have cRN := Lib.hid (fun W hb => ref16_Names pa ca la W (HA.out.below (w' := W) hb) (by omega))
    have cW := Lib.hid (fun W hb => query_Wanted pa pp ca cp la lp f W (HA.out.below (w' := W) hb) (HP.out.below hb) (HU.out.below hb) (by omega) (by omega) HAZ.out HPZ.out)
    have cRW := Lib.hid (fun W hb => ref16_Wanted pa pp ca cp la lp f W (HA.out.below (w' := W) hb) (HP.out.below hb) (by omega) (by omega) HAZ.out HPZ.out)
    generalize wantB la lp f = r at *
    generalize valuesB la n = vs at *
    generalize namesK la la.length = ns at *
    have er : (r == r) = true := beq_self_eq_true _
    go_enter Tryd.func12, Tryd.ntmps12
    go_wp2_with fail
    refine (speaks16 _ hg HU.out).mono ?_
    rintro e w1 ⟨rfl, hb1⟩
    go_wp2_with fail
    refine (g1.out _ hb1).mono ?_
    rintro e w2 ⟨rfl, hb2⟩
    have hb12 := Bt hb1 hb2
    clear hb1 hb2
    go_wp2_with fail
    refine (g3.out _ hb12).mono ?_
    rintro e w3 ⟨rfl, hb3⟩
    have hb13 := Bt hb12 hb3
    clear hb12 hb3
    go_wp2_with fail
    refine (cV.out _ hb13).mono ?_
    rintro e w4 ⟨hb4, a1, c1, rfl, hs1⟩
    have hb14 := Bt hb13 hb4
    clear hb13 hb4 hwm
    go_wp2_with fail
    refine (cRV.out _ hb14).mono ?_
    rintro e w5 ⟨hb5, a2, c2, rfl, hs2⟩
    have hb15 := Bt hb14 hb5
    have hs1 := hs1.below hb5
    clear hb14 hb5
    go_wp2_with fail
    refine (cS.out a1 a2 c1 c2 _ hs1 hs2).mono ?_
    rintro e w6 ⟨rfl, hb6⟩
    have hb16 := Bt hb15 hb6
    clear hb15 hb6 hs1 hs2
    go_wp2_with fail
    refine (cN.out _ hb16).mono ?_
    rintro e w7 ⟨hb7, a3, c3, rfl, hs1⟩
    have hb17 := Bt hb16 hb7
    clear hb16 hb7
    go_wp2_with fail
    refine (cRN.out _ hb17).mono ?_
    rintro e w8 ⟨hb8, a4, c4, rfl, hs2⟩
    have hb18 := Bt hb17 hb8
    have hs1 := hs1.below hb8
    clear hb17 hb8
    go_wp2_with fail
    refine (cT.out a3 a4 c3 c4 _ hs1 hs2).mono ?_
    rintro e w9 ⟨rfl, hb9⟩
    have hb19 := Bt hb18 hb9
    clear hb18 hb9 hs1 hs2
    go_wp2_with fail
    refine (cW.out _ hb19).mono ?_
    rintro e w10 ⟨rfl, hb10⟩
    have hb20 := Bt hb19 hb10
    clear hb19 hb10
    go_wp2_with fail
    refine (cRW.out _ hb20).mono ?_
    rintro e w11 ⟨rfl, hb11⟩
    have hb21 := Bt hb20 hb11
    go_wp2_with fail
    go_ret
    exact ⟨rfl, hb21⟩
end Go.Proofs.YteabhblbefglpaaDoor
