/- query.Text; the reference's. -/
import Derived.Test.YtakcfgmibijdnaaGreatDoorQueryWritesM8
import Derived.Test.YtakcfgmibijdnaaGreatDoorQueryWritesM7

namespace Go.Proofs.YtakcfgmibijdnaaGreatDoor
open Go.RowKit

theorem partsW_step {l : List It} {k : Nat} {x : It} (h : l[k]? = some x) : partsW (l.take (k + 1)) = if partW x = [] then partsW (l.take k) else partsW (l.take k) ++ [partW x] := by
  rw [List.take_add_one, h]
  exact partsW_snoc _ _
theorem ofL_eq {a : List UInt8} {s : ByteArray} (h : a = s.data.toList) : ofL a = s := by rw [h, ofL_list]
theorem map_ofL (ps : List (List UInt8)) : (ps.map ofL).map (·.data.toList) = ps := by
  rw [List.map_map]
  conv => rhs; rw [← List.map_id ps]
  exact List.map_congr_left fun x _ => ofL_data x
theorem str_Join (ps : List (List UInt8)) (m : UInt8) (a : Option Addr) (n c : Nat) (W : World) (hn : n = (ps.map ofL).length) (hrow : RowSl W a ((ps.map ofL).map strV)) (h1 : n ≤ c) (hz : (joinA m ps).length ≤ 140737488355328) (hps : ps.length ≤ 100000) :
    Calls Tryz.prog 68 #[.slice a n c, .string ⟨#[m]⟩] W fun e w' => e = .returned (.string (ofL (joinA m ps))) ∧ Below W.heap.size W w' := by
  subst hn
  have hj : Lib.join ((ps.map ofL).map (·.data.toList)) (⟨#[m]⟩ : ByteArray).data.toList = joinA m ps := by
    rw [map_ofL]
    exact joinA_lib m ps
  have hl : (ps.map ofL).length = ps.length := List.length_map _
  by_cases h0 : 0 < (ps.map ofL).length
  · obtain ⟨g, rfl, hg, hc⟩ := hrow.strs h0
    have := Tryz.strings_Join g 0 c (ps.map ofL) ⟨#[m]⟩ W (fun j x hj => by
      have hj' := (List.getElem?_eq_some_iff.1 hj).1
      rw [hc j hj']
      simp only [List.getD, hj, Option.getD_some]) hg (by omega) h1 (by rw [hj]; exact hz)
    rw [hj] at this
    exact this
  · have hnil : ps = [] := List.eq_nil_of_length_eq_zero (by omega)
    subst hnil
    refine (Tryz.strings_Join_none a c ⟨#[m]⟩ W).mono ?_
    rintro e w' ⟨rfl, rfl⟩
    exact ⟨rfl, Below.refl _ _⟩
theorem textW_len {l : List It} (hl : l.length ≤ 300) (hz : ∀ x ∈ l, x.name.size ≤ 200 ∧ x.value.size ≤ 200) : (joinA 38 (partsW l)).length ≤ 400000 := by
  have hzp : ∀ p ∈ partsW l, p.length ≤ 1300 := fun p hp => by
    have := (List.mem_filter.1 hp).1
    obtain ⟨x, hx, rfl⟩ := List.mem_map.1 this
    have h1 := partW_len x
    have h2 := hz x hx
    omega
  have hjl := joinA_len 38 1300 (partsW l) hzp
  have hm := Nat.mul_le_mul_left 1301 (Nat.le_trans (partsW_len l) hl)
  omega
set_option maxHeartbeats 6400000 in
set_option maxRecDepth 100000 in
theorem query_Text (pa : Option Addr) (pc : Nat) (l : List It) (w : World) (hsl : ItemsSl w pa l) (hl : l.length ≤ 300) (hz : ∀ x ∈ l, x.name.size ≤ 200 ∧ x.value.size ≤ 200) :
    Calls Tryz.prog 32 #[.slice pa l.length pc] w fun e w' => e = .returned (.string (ofL (textW l))) ∧ Below w.heap.size w w' := by
  have HSL := Lib.hid hsl
  have HZ := Lib.hid hz
  have hlen : ∀ i, (partsW (l.take i)).length ≤ 300 := fun i => by have h1 := partsW_len (l.take i); rw [List.length_take] at h1; omega
  have HLEN := Lib.hid hlen
  clear hsl hz hlen
  go_enter Tryz.func32, Tryz.ntmps32
  go_wp2_with fail
  go_loopw [3, 9] (fun v x wr => ∃ i : Nat, i ≤ l.length ∧ x = .int .i64 i ∧ OwnS wr w.heap.size v ((partsW (l.take i)).map ofL) ∧ Below w.heap.size w wr) (fun _ x _ => l.length - (intOf x).toNat)
  case atStart => exact ⟨0, Nat.zero_le _, rfl, OwnS.nil _ _, Below.refl _ _⟩
  case round =>
    obtain ⟨i, hil, rfl, hown, hbr⟩ := hrel
    by_cases hlt : i < l.length
    · obtain ⟨p, hx⟩ : ∃ p, l[i]? = some p := ⟨_, List.getElem?_eq_getElem hlt⟩
      obtain ⟨b, off, rfl, hb, d0, d1, d2⟩ := (HSL.out.below hbr) i p hx
      have hpz := HZ.out p (List.mem_of_getElem? hx)
      have hst := partsW_step hx
      have hvl := HLEN.out i
      have hyes := partW_yes (x := p)
      have hno := partW_no (x := p)
      obtain ⟨pn, pv, ph⟩ := p
      dsimp only at hpz d0 d1 d2 hyes hno
      have hiI : (i : Int) < (l.length : Int) := by omega
      have hstA : Below wr.heap.size wr (wr.alloc (.cells #[.string pn, .string pv, .bool ph] 47)) := (Below.refl _ _).alloc (Nat.le_refl _) _
      have hitA : ItemAt (wr.alloc (.cells #[.string pn, .string pv, .bool ph] 47)) wr.heap.size pn pv ph := ItemAt.new
      have hszA : (wr.alloc (.cells #[.string pn, .string pv, .bool ph] 47)).heap.size = wr.heap.size + 1 := World.size_alloc _ _
      have hbA := Bt hbr hstA
      have hownA := hown.below hstA
      have hn1 := hpz.1
      have hn2 := hpz.2
      have HST := Lib.hid hst
      have HYES := Lib.hid hyes
      have HNO := Lib.hid hno
      have hvl2 : ((partsW (l.take i)).map ofL).length ≤ 300 := by rw [List.length_map]; exact hvl
      clear hx hst hyes hno hown hstA hbr hpz hvl
      generalize partsW (l.take i) = acc at *
      have HOW := Lib.hid hownA
      have HBA := Lib.hid hbA
      have hcA := hitA.cells
      obtain ⟨k0, k1, k2⟩ := hcA
      clear hownA hbA
      go_wp2_with ((with_reducible refine wpList_bytes_sl rfl 9 56 5 _ rfl pn rfl Tryz.underlying9 Tryz.underlying56 Tryz.underlying5 (by omega) ?_); intro v1 w2 hv1 hb2)
      have hs2 := hb2.size
      have hit2 := hitA.below hb2
      have HB2 := Lib.hid (HBA.out.trans (hb2.mono HBA.out.size))
      have HO2 := Lib.hid (HOW.out.below hb2)
      clear hb2 k0 k1 k2
      go_wp2_with fail
      refine (percent_Encode v1 pn ⟨#[]⟩ w2 (by omega) hv1).mono ?_
      rintro e w3 ⟨rfl, hb3⟩
      have hit3 := hit2.below hb3
      have HB3 := Lib.hid (HB2.out.trans (hb3.mono HB2.out.size))
      have HO3 := Lib.hid (HO2.out.below hb3)
      obtain ⟨k0, k1, k2⟩ := hit3.cells
      have hez : (encE0 pn.data.toList).length ≤ 3 * pn.size := encE0_len _
      have heA : encS ⟨#[]⟩ pn = ofL (encE0 pn.data.toList) := rfl
      rw [heA]
      have hAz := ofL_size (encE0 pn.data.toList)
      generalize encE0 pn.data.toList = EA at *
      clear heA hb3 hit2 hitA hv1
      cases ph with
      | true =>
        have hpw := HYES.out rfl
        have hv2z : (encE0 pv.data.toList).length ≤ 3 * pv.size := encE0_len _
        have HIT := Lib.hid hit3
        clear hit3
        go_wp2_with ((with_reducible refine wpList_bytes_sl rfl 9 56 5 _ rfl pv rfl Tryz.underlying9 Tryz.underlying56 Tryz.underlying5 (by omega) ?_); intro v4 w4 hv4 hb4)
        have HB4 := Lib.hid (HB3.out.trans (hb4.mono HB3.out.size))
        have HO4 := Lib.hid (HO3.out.below hb4)
        clear hb4
        go_wp2_with fail
        refine (percent_Encode v4 pv ⟨#[]⟩ w4 (by omega) hv4).mono ?_
        rintro e w5 ⟨rfl, hb5⟩
        have HB5 := Lib.hid (HB4.out.trans (hb5.mono HB4.out.size))
        have HO5 := Lib.hid (HO4.out.below hb5)
        have heB : encS ⟨#[]⟩ pv = ofL (encE0 pv.data.toList) := rfl
        rw [heB]
        have hBz := ofL_size (encE0 pv.data.toList)
        generalize encE0 pv.data.toList = EB at *
        have hj1 : (⟨#[61]⟩ : ByteArray) ++ ofL EB = ofL (61 :: EB) := by
          show ofL [61] ++ ofL EB = _
          rw [ofL_app]; rfl
        have hj2 : ofL EA ++ ofL (61 :: EB) = ofL (EA ++ 61 :: EB) := ofL_app _ _
        have hz1 : (ofL EA).size ≤ 600 := by omega
        have hz2 : (ofL EB).size ≤ 600 := by omega
        have hz3 : (ofL (61 :: EB)).size ≤ 601 := by rw [ofL_size, List.length_cons]; omega
        have hz4 : 0 < (ofL (EA ++ 61 :: EB)).size := by rw [ofL_size, List.length_append, List.length_cons]; omega
        have e0 := isEmpty_no hz4
        have hps := HST.out
        rw [hpw, if_neg (by simp)] at hps
        have HPS := Lib.hid hps
        have hmap : (acc.map ofL) ++ [ofL (EA ++ 61 :: EB)] = (acc ++ [EA ++ 61 :: EB]).map ofL := by simp
        have HMAP := Lib.hid hmap
        have hbC : Below w5.heap.size w5 (w5.alloc (.cells #[.string (ofL (EA ++ 61 :: EB))] 9)) := (Below.refl _ _).alloc (Nat.le_refl _) _
        have hownC := HO5.out.below hbC
        have hblk := heap_alloc_new w5 (.cells #[.string (ofL (EA ++ 61 :: EB))] 9)
        have hszC : w.heap.size ≤ (w5.alloc (.cells #[.string (ofL (EA ++ 61 :: EB))] 9)).heap.size := by have := HB5.out.size; simp; omega
        clear hb5 hv4 hpw hps hmap hAz hBz heB
        generalize ofL (EA ++ 61 :: EB) = R at *
        generalize ofL (61 :: EB) = R2 at *
        generalize ofL EA = RA at *
        generalize ofL EB = RB at *
        go_wp2_with (at_builtin; go_loud (refine wpList_app_str rfl _ _ rfl w.heap.size _ _ rfl hownC w5.heap.size 1 R rfl hblk (by omega) hszC ?_))
        intro v' w' hown' hg'
        have hb' := hownC.under (HB5.out.trans (hbC.mono HB5.out.size)) (Nat.le_refl _) hg'
        rw [HMAP.out, ← HPS.out] at hown'
        clear hg' hownC hbC hblk
        go_wp2_with fail
        go_roundw
        case rel => exact ⟨i + 1, by omega, by go_num, hown', hb'⟩
        case measure => simp [intOf]; omega
      | false =>
        have hpw := HNO.out rfl
        have hps := HST.out
        rw [hpw] at hps
        by_cases h0 : EA = []
        · rw [if_pos h0] at hps
          have e0 : (ofL EA).toList.isEmpty = true := isEmpty_yes (by rw [hAz, h0]; rfl)
          have HPS := Lib.hid hps
          clear hps hpw h0 hit3
          generalize ofL EA = RA at *
          go_wp2_with fail
          go_roundw
          case rel => exact ⟨i + 1, by omega, by go_num, by rw [HPS.out]; exact HO3.out, HB3.out⟩
          case measure => simp [intOf]; omega
        · rw [if_neg h0] at hps
          have e0 : (ofL EA).toList.isEmpty = false := isEmpty_no (by rw [hAz]; exact Nat.pos_of_ne_zero fun e => h0 (List.eq_nil_of_length_eq_zero e))
          have HPS := Lib.hid hps
          have hmap : (acc.map ofL) ++ [ofL EA] = (acc ++ [EA]).map ofL := by simp
          have HMAP := Lib.hid hmap
          have hbC : Below w3.heap.size w3 (w3.alloc (.cells #[.string (ofL EA)] 9)) := (Below.refl _ _).alloc (Nat.le_refl _) _
          have hownC := HO3.out.below hbC
          have hblk := heap_alloc_new w3 (.cells #[.string (ofL EA)] 9)
          have hszC : w.heap.size ≤ (w3.alloc (.cells #[.string (ofL EA)] 9)).heap.size := by have := HB3.out.size; simp; omega
          clear hps hpw h0 hit3 hmap
          generalize ofL EA = RA at *
          go_wp2_with (at_builtin; go_loud (refine wpList_app_str rfl _ _ rfl w.heap.size _ _ rfl hownC w3.heap.size 1 RA rfl hblk (by omega) hszC ?_))
          intro v' w' hown' hg'
          have hb' := hownC.under (HB3.out.trans (hbC.mono HB3.out.size)) (Nat.le_refl _) hg'
          rw [HMAP.out, ← HPS.out] at hown'
          clear hg' hownC hbC hblk
          go_wp2_with fail
          go_roundw
          case rel => exact ⟨i + 1, by omega, by go_num, hown', hb'⟩
          case measure => simp [intOf]; omega
    · obtain rfl : i = l.length := by omega
      rw [List.take_length] at hown
      obtain ⟨a, c, rfl, h1, h2, hrow⟩ := hown.sl
      have hjl := textW_len hl HZ.out
      have hpl := partsW_len l
      have cJ := Lib.hid (str_Join (partsW l) 38 a ((partsW l).map ofL).length c wr rfl hrow h1 (by omega) (by omega))
      have htx : joinA 38 (partsW l) = textW l := rfl
      rw [htx] at cJ
      have HBR := Lib.hid hbr
      have hiI : ¬ (l.length : Int) < (l.length : Int) := by omega
      clear hown hrow hjl hpl h1 h2 hbr htx
      generalize ((partsW l).map ofL).length = n at *
      obtain ⟨R, hR⟩ : ∃ R, R = ofL (textW l) := ⟨_, rfl⟩
      rw [← hR] at cJ
      have HR := Lib.hid hR
      clear hR
      go_wp2_with fail
      refine cJ.out.mono ?_
      rintro e w2 ⟨rfl, hb2⟩
      have hbE := Bt HBR.out hb2
      go_wp2_with fail
      go_ret
      exact ⟨ret_str HR.out, hbE⟩
end Go.Proofs.YtakcfgmibijdnaaGreatDoor

/- The reference's Text of chapter 16. -/
namespace Go.Proofs.YtakcfgmibijdnaaGreatDoor
open Go.RowKit

theorem joinA_put (c : UInt8) (acc : List (List UInt8)) (p : List UInt8) : joinA c (acc ++ [p]) = if acc = [] then p else joinA c acc ++ c :: p := by
  by_cases h : acc = []
  · rw [if_pos h, h]; rfl
  · rw [if_neg h, joinA_snoc c p acc h]
set_option maxHeartbeats 6400000 in
set_option maxRecDepth 100000 in
theorem ref16_Text (pa : Option Addr) (pc : Nat) (l : List It) (w : World) (hsl : ItemsSl w pa l) (hl : l.length ≤ 300) (hz : ∀ x ∈ l, x.name.size ≤ 200 ∧ x.value.size ≤ 200) :
    Calls Tryz.prog 33 #[.slice pa l.length pc] w fun e w' => e = .returned (.string (ofL (textW l))) ∧ Below w.heap.size w w' := by
  have HSL := Lib.hid hsl
  have HZ := Lib.hid hz
  have hlen : ∀ i, (joinA 38 (partsW (l.take i))).length ≤ 400000 := fun i => by
    have h1 := partsW_len (l.take i)
    rw [List.length_take] at h1
    have hzp : ∀ p ∈ partsW (l.take i), p.length ≤ 1300 := fun p hp => by
      have := (List.mem_filter.1 hp).1
      obtain ⟨x, hx, rfl⟩ := List.mem_map.1 this
      have h1 := partW_len x
      have h2 := hz x (List.mem_of_mem_take hx)
      omega
    have hjl := joinA_len 38 1300 (partsW (l.take i)) hzp
    have hm := Nat.mul_le_mul_left 1301 (show (partsW (l.take i)).length ≤ 300 by omega)
    omega
  have HLEN := Lib.hid hlen
  have hall : textW l = joinA 38 (partsW (l.take l.length)) := by rw [List.take_length]; rfl
  have HALL := Lib.hid hall
  have hne : ∀ i, ∀ p ∈ partsW (l.take i), p ≠ [] := fun i p hp => partsW_ne hp
  have HNE := Lib.hid hne
  clear hsl hz hlen hall hne
  go_enter Tryz.func33, Tryz.ntmps33
  go_wp2_with fail
  go_loopw [3, 4] (fun v x wr => ∃ i : Nat, i ≤ l.length ∧ x = .int .i64 i ∧ v = .string (ofL (joinA 38 (partsW (l.take i)))) ∧ Below w.heap.size w wr) (fun _ x _ => l.length - (intOf x).toNat)
  case atStart => exact ⟨0, Nat.zero_le _, rfl, rfl, Below.refl _ _⟩
  case round =>
    obtain ⟨i, hil, rfl, rfl, hbr⟩ := hrel
    by_cases hlt : i < l.length
    · obtain ⟨p, hx⟩ : ∃ p, l[i]? = some p := ⟨_, List.getElem?_eq_getElem hlt⟩
      obtain ⟨b, off, rfl, hb, g0, g1, g2⟩ := HSL.out i p hx
      have hcl : ∀ W, Below w.heap.size w W → W.cell? ⟨b, off + i * 3, none⟩ = some (.string p.name) ∧ W.cell? ⟨b, off + i * 3 + 1, none⟩ = some (.string p.value) ∧ W.cell? ⟨b, off + i * 3 + 2, none⟩ = some (.bool p.has) := fun W hW =>
        ⟨(hW.cell (p := ⟨b, _, none⟩) hb).trans g0, (hW.cell (p := ⟨b, _, none⟩) hb).trans g1, (hW.cell (p := ⟨b, _, none⟩) hb).trans g2⟩
      obtain ⟨d0, d1, d2⟩ := hcl wr hbr
      have hpz := HZ.out p (List.mem_of_getElem? hx)
      have hst := partsW_step hx
      have hjl := HLEN.out i
      have hjn := joinA_nil (c := 38) (HNE.out i)
      have hyes := partW_yes (x := p)
      have hno := partW_no (x := p)
      obtain ⟨pn, pv, ph⟩ := p
      dsimp only at hpz d0 d1 d2 hyes hno hcl
      have HCL := Lib.hid hcl
      clear hcl g0 g1 g2
      have hiI : (i : Int) < (l.length : Int) := by omega
      have hn1 := hpz.1
      have hn2 := hpz.2
      have hez : (encE0 pn.data.toList).length ≤ 3 * pn.size := encE0_len _
      have hen : pn.size ≠ 0 → encE0 pn.data.toList ≠ [] := fun h e => h (by have := encE0_nil e; show pn.data.toList.length = 0; rw [this]; rfl)
      have hen0 : pn.size = 0 → encE0 pn.data.toList = [] := fun h => by
        have : pn.data.toList = [] := List.eq_nil_of_length_eq_zero h
        rw [this]; rfl
      obtain ⟨acc2, hacc2⟩ : ∃ a, partsW (l.take (i + 1)) = a := ⟨_, rfl⟩
      rw [hacc2] at hst
      have HACC2 := Lib.hid hacc2
      clear hacc2
      generalize partsW (l.take i) = acc at *
      have hJz := ofL_size (joinA 38 acc)
      have hAz := ofL_size (encE0 pn.data.toList)
      have heA : encS ⟨#[]⟩ pn = ofL (encE0 pn.data.toList) := rfl
      have cEA : ∀ v W, BytesSl W v pn → Calls Tryz.prog 69 #[v, .string ⟨#[]⟩] W fun e w' => e = .returned (.string (ofL (encE0 pn.data.toList))) ∧ Below W.heap.size W w' := fun v W h => ref_Encode v pn ⟨#[]⟩ W (by omega) (by decide) h
      generalize hEA : encE0 pn.data.toList = EA at *
      have HYES := Lib.hid hyes
      have HNO := Lib.hid hno
      have HST := Lib.hid hst
      have HBR := Lib.hid hbr
      have CEA := Lib.hid cEA
      clear hx hst hyes hno hpz heA hEA cEA hbr
      have hbit : ∃ bb, ((pn.size : Int) == 0) = bb ∧ (bb = true → pn.size = 0) ∧ (bb = false → pn.size ≠ 0) := ⟨_, rfl, fun h => by rw [beq_iff_eq] at h; omega, fun h => by rw [beq_eq_false_iff_ne] at h; omega⟩
      obtain ⟨bb, e0, hb1, hb2⟩ := hbit
      have HB1 := Lib.hid hb1
      have HB2 := Lib.hid hb2
      have HEN := Lib.hid hen
      have HEN0 := Lib.hid hen0
      clear hb1 hb2 hen hen0
      cases ph with
      | true =>
        have hpw := HYES.out rfl
        have hBl : (encE0 pv.data.toList).length ≤ 3 * pv.size := encE0_len _
        have hBz := ofL_size (encE0 pv.data.toList)
        have cEB : ∀ v W, BytesSl W v pv → Calls Tryz.prog 69 #[v, .string ⟨#[]⟩] W fun e w' => e = .returned (.string (ofL (encE0 pv.data.toList))) ∧ Below W.heap.size W w' := fun v W h => ref_Encode v pv ⟨#[]⟩ W (by omega) (by decide) h
        generalize encE0 pv.data.toList = EB at *
        have hps := HST.out
        rw [hpw, if_neg (by simp)] at hps
        have hjp : joinA 38 acc2 = if acc = [] then EA ++ 61 :: EB else joinA 38 acc ++ 38 :: (EA ++ 61 :: EB) := by rw [hps]; exact joinA_put _ _ _
        have CEB := Lib.hid cEB
        have z1 : (ofL (joinA 38 acc)).size ≤ 400000 := by omega
        have z2 : (ofL EA).size ≤ 600 := by omega
        have z3 : (ofL EB).size ≤ 600 := by omega
        have z4 : (ofL (joinA 38 acc) ++ ⟨#[38]⟩).size ≤ 400001 := by rw [show (⟨#[38]⟩ : ByteArray) = ofL [38] from rfl, ofL_app, ofL_size, List.length_append]; simp; omega
        have z5 : (ofL (joinA 38 acc) ++ ⟨#[38]⟩ ++ ofL EA).size ≤ 400601 := by rw [show (⟨#[38]⟩ : ByteArray) = ofL [38] from rfl, ofL_app, ofL_app, ofL_size, List.length_append, List.length_append]; simp; omega
        have z6 : (ofL (joinA 38 acc) ++ ofL EA).size ≤ 400600 := by rw [ofL_app, ofL_size, List.length_append]; omega
        have z7 : ((⟨#[61]⟩ : ByteArray) ++ ofL EB).size ≤ 601 := by rw [show (⟨#[61]⟩ : ByteArray) = ofL [61] from rfl, ofL_app, ofL_size, List.length_append]; simp; omega
        clear hpw hps cEB
        by_cases hA : acc = []
        · rw [if_pos hA] at hjp
          have hz0 : (ofL (joinA 38 acc)).size = 0 := by rw [hJz, hA]; rfl
          have hI : ¬ ((ofL (joinA 38 acc)).size : Int) > 0 := by omega
          have hfin : ofL (joinA 38 acc) ++ ofL EA ++ (⟨#[61]⟩ ++ ofL EB) = ofL (joinA 38 acc2) := by
            rw [show (⟨#[61]⟩ : ByteArray) = ofL [61] from rfl, ofL_app, ofL_app, ofL_app, hjp, hA]
            rfl
          have HFIN := Lib.hid hfin
          clear hfin hjp hz0 hA hJz hAz hBz hjn
          generalize ofL (joinA 38 acc) = J at *
          generalize ofL EA = RA at *
          generalize ofL EB = RB at *
          cases bb
          all_goals
            go_wp2_with ((with_reducible refine wpList_bytes_sl rfl 9 56 5 _ rfl pn rfl Tryz.underlying9 Tryz.underlying56 Tryz.underlying5 (by omega) ?_); intro v1 w2 hv1 hb2)
            have HBW2 := Lib.hid (Bt HBR.out hb2)
            clear hb2 d0 d1 d2
            go_wp2_with fail
            refine (CEA.out v1 w2 hv1).mono ?_
            rintro e w3 ⟨rfl, hb3⟩
            have HBW3 := Lib.hid (Bt HBW2.out hb3)
            obtain ⟨d0, d1, d2⟩ := HCL.out w3 HBW3.out
            clear hb3 hv1
            go_wp2_with ((with_reducible refine wpList_bytes_sl rfl 9 56 5 _ rfl pv rfl Tryz.underlying9 Tryz.underlying56 Tryz.underlying5 (by omega) ?_); intro v4 w4 hv4 hb4)
            have HBW4 := Lib.hid (Bt HBW3.out hb4)
            clear hb4 d0 d1 d2
            go_wp2_with fail
            refine (CEB.out v4 w4 hv4).mono ?_
            rintro e w5 ⟨rfl, hb5⟩
            have hbE := Bt HBW4.out hb5
            clear hb5 hv4
            go_wp2_with fail
            go_roundw
            case rel => exact ⟨i + 1, by omega, by go_num, by rw [HACC2.out]; exact congrArg Value.string HFIN.out, hbE⟩
            case measure => simp [intOf]; omega
        · rw [if_neg hA] at hjp
          have hz0 : 0 < (ofL (joinA 38 acc)).size := by rw [hJz]; exact Nat.pos_of_ne_zero fun e => hA (hjn.1 (List.eq_nil_of_length_eq_zero e))
          have hI : ((ofL (joinA 38 acc)).size : Int) > 0 := by omega
          have hfin : ofL (joinA 38 acc) ++ ⟨#[38]⟩ ++ ofL EA ++ (⟨#[61]⟩ ++ ofL EB) = ofL (joinA 38 acc2) := by
            rw [show (⟨#[61]⟩ : ByteArray) = ofL [61] from rfl, show (⟨#[38]⟩ : ByteArray) = ofL [38] from rfl, ofL_app, ofL_app, ofL_app, ofL_app, hjp]
            simp
          have HFIN := Lib.hid hfin
          clear hfin hjp hz0 hA hJz hAz hBz hjn
          generalize ofL (joinA 38 acc) = J at *
          generalize ofL EA = RA at *
          generalize ofL EB = RB at *
          cases bb
          all_goals
            go_wp2_with ((with_reducible refine wpList_bytes_sl rfl 9 56 5 _ rfl pn rfl Tryz.underlying9 Tryz.underlying56 Tryz.underlying5 (by omega) ?_); intro v1 w2 hv1 hb2)
            have HBW2 := Lib.hid (Bt HBR.out hb2)
            clear hb2 d0 d1 d2
            go_wp2_with fail
            refine (CEA.out v1 w2 hv1).mono ?_
            rintro e w3 ⟨rfl, hb3⟩
            have HBW3 := Lib.hid (Bt HBW2.out hb3)
            obtain ⟨d0, d1, d2⟩ := HCL.out w3 HBW3.out
            clear hb3 hv1
            go_wp2_with ((with_reducible refine wpList_bytes_sl rfl 9 56 5 _ rfl pv rfl Tryz.underlying9 Tryz.underlying56 Tryz.underlying5 (by omega) ?_); intro v4 w4 hv4 hb4)
            have HBW4 := Lib.hid (Bt HBW3.out hb4)
            clear hb4 d0 d1 d2
            go_wp2_with fail
            refine (CEB.out v4 w4 hv4).mono ?_
            rintro e w5 ⟨rfl, hb5⟩
            have hbE := Bt HBW4.out hb5
            clear hb5 hv4
            go_wp2_with fail
            go_roundw
            case rel => exact ⟨i + 1, by omega, by go_num, by rw [HACC2.out]; exact congrArg Value.string HFIN.out, hbE⟩
            case measure => simp [intOf]; omega
      | false =>
        have hpw := HNO.out rfl
        have hps := HST.out
        rw [hpw] at hps
        have z1 : (ofL (joinA 38 acc)).size ≤ 400000 := by omega
        have z2 : (ofL EA).size ≤ 600 := by omega
        have z4 : (ofL (joinA 38 acc) ++ ⟨#[38]⟩).size ≤ 400001 := by rw [show (⟨#[38]⟩ : ByteArray) = ofL [38] from rfl, ofL_app, ofL_size, List.length_append]; simp; omega
        cases bb with
        | true =>
          have hp0 := HB1.out rfl
          rw [if_pos (HEN0.out hp0)] at hps
          have HPS := Lib.hid hps
          clear hps hpw hp0 hJz hAz hjn
          go_wp2_with fail
          go_roundw
          case rel => exact ⟨i + 1, by omega, by go_num, by rw [HACC2.out, HPS.out], HBR.out⟩
          case measure => simp [intOf]; omega
        | false =>
          have hp0 := HEN.out (HB2.out rfl)
          rw [if_neg hp0] at hps
          have hjp : joinA 38 acc2 = if acc = [] then EA else joinA 38 acc ++ 38 :: EA := by rw [hps]; exact joinA_put _ _ _
          clear hps hpw hp0
          by_cases hA : acc = []
          · rw [if_pos hA] at hjp
            have hz0 : (ofL (joinA 38 acc)).size = 0 := by rw [hJz, hA]; rfl
            have hI : ¬ ((ofL (joinA 38 acc)).size : Int) > 0 := by omega
            have hfin : ofL (joinA 38 acc) ++ ofL EA = ofL (joinA 38 acc2) := by
              rw [ofL_app, hjp, hA]
              rfl
            have HFIN := Lib.hid hfin
            clear hfin hjp hz0 hA hJz hAz hjn
            generalize ofL (joinA 38 acc) = J at *
            generalize ofL EA = RA at *
            go_wp2_with ((with_reducible refine wpList_bytes_sl rfl 9 56 5 _ rfl pn rfl Tryz.underlying9 Tryz.underlying56 Tryz.underlying5 (by omega) ?_); intro v1 w2 hv1 hb2)
            have HBW2 := Lib.hid (Bt HBR.out hb2)
            clear hb2 d0 d1 d2
            go_wp2_with fail
            refine (CEA.out v1 w2 hv1).mono ?_
            rintro e w3 ⟨rfl, hb3⟩
            have HBW3 := Lib.hid (Bt HBW2.out hb3)
            obtain ⟨d0, d1, d2⟩ := HCL.out w3 HBW3.out
            clear hb3 hv1
            go_wp2_with fail
            go_roundw
            case rel => exact ⟨i + 1, by omega, by go_num, by rw [HACC2.out]; exact congrArg Value.string HFIN.out, HBW3.out⟩
            case measure => simp [intOf]; omega
          · rw [if_neg hA] at hjp
            have hz0 : 0 < (ofL (joinA 38 acc)).size := by rw [hJz]; exact Nat.pos_of_ne_zero fun e => hA (hjn.1 (List.eq_nil_of_length_eq_zero e))
            have hI : ((ofL (joinA 38 acc)).size : Int) > 0 := by omega
            have hfin : ofL (joinA 38 acc) ++ ⟨#[38]⟩ ++ ofL EA = ofL (joinA 38 acc2) := by
              rw [show (⟨#[38]⟩ : ByteArray) = ofL [38] from rfl, ofL_app, ofL_app, hjp]
              simp
            have HFIN := Lib.hid hfin
            clear hfin hjp hz0 hA hJz hAz hjn
            generalize ofL (joinA 38 acc) = J at *
            generalize ofL EA = RA at *
            go_wp2_with ((with_reducible refine wpList_bytes_sl rfl 9 56 5 _ rfl pn rfl Tryz.underlying9 Tryz.underlying56 Tryz.underlying5 (by omega) ?_); intro v1 w2 hv1 hb2)
            have HBW2 := Lib.hid (Bt HBR.out hb2)
            clear hb2 d0 d1 d2
            go_wp2_with fail
            refine (CEA.out v1 w2 hv1).mono ?_
            rintro e w3 ⟨rfl, hb3⟩
            have HBW3 := Lib.hid (Bt HBW2.out hb3)
            obtain ⟨d0, d1, d2⟩ := HCL.out w3 HBW3.out
            clear hb3 hv1
            go_wp2_with fail
            go_roundw
            case rel => exact ⟨i + 1, by omega, by go_num, by rw [HACC2.out]; exact congrArg Value.string HFIN.out, HBW3.out⟩
            case measure => simp [intOf]; omega
    · obtain rfl : i = l.length := by omega
      have hiI : ¬ (l.length : Int) < (l.length : Int) := by omega
      go_wp2_with fail
      go_ret
      exact ⟨ret_str (by first | rfl | rw [HALL.out]), hbr⟩
end Go.Proofs.YtakcfgmibijdnaaGreatDoor
