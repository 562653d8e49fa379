/- append(x, y...) of items. -/
import Derived.Test.YtakcfgmibijdnaaGreatDoorQueryWritesM6
import Derived.Deep.AppendSrc
import Derived.Test.YtakcfgmibijdnaaGreatDoorQueryWritesM8
import Derived.Test.YtakcfgmibijdnaaGreatDoorQueryWritesM9
import Derived.Test.YtakcfgmibijdnaaGreatDoorQueryWritesM17
import Derived.Test.YtakcfgmibijdnaaGreatDoorQueryWritesM20
import Derived.Test.YtakcfgmibijdnaaGreatDoorQueryWritesM15

namespace Go.Proofs.YtakcfgmibijdnaaGreatDoor
open Go.RowKit

theorem ItemsSl.cellsAt {w : World} {a : Option Addr} {l : List It} (h : ItemsSl w a l) (hne : l ≠ []) : ∃ b off, a = some ⟨b, off, none⟩ ∧ b < w.heap.size ∧ ∀ j u, (itemsV l)[j]? = some u → w.cell? ((⟨b, off, none⟩ : Addr).add j) = some u := by
  obtain ⟨x, l', rfl⟩ := List.exists_cons_of_ne_nil hne
  obtain ⟨b, off, rfl, hb, _⟩ := h 0 x rfl
  refine ⟨b, off, rfl, hb, fun j u hj => ?_⟩
  have hlt := (List.getElem?_eq_some_iff.1 hj).1
  rw [itemsV_len] at hlt
  obtain ⟨p, hp⟩ : ∃ p, (x :: l')[j / 3]? = some p := ⟨_, List.getElem?_eq_getElem (by omega)⟩
  obtain ⟨b', off', e, _, h0, h1, h2⟩ := h (j / 3) p hp
  cases e
  have hm := itemsV_at hp (j % 3) (by omega)
  rw [show j / 3 * 3 + j % 3 = j by omega, hj] at hm
  rw [Addr.add_lit]
  have h3 : j % 3 = 0 ∨ j % 3 = 1 ∨ j % 3 = 2 := by omega
  rcases h3 with e | e | e
  · rw [e] at hm; rw [show off + j = off + j / 3 * 3 by omega, h0]; exact hm.symm
  · rw [e] at hm; rw [show off + j = off + j / 3 * 3 + 1 by omega, h1]; exact hm.symm
  · rw [e] at hm; rw [show off + j = off + j / 3 * 3 + 2 by omega, h2]; exact hm.symm
theorem itemsV_one (l : List It) : ∀ u ∈ itemsV l, u.oneCell' = true := by
  intro u hu
  unfold itemsV at hu
  obtain ⟨p, _, hp⟩ := List.mem_flatMap.1 hu
  exact itemC_one p u hp
theorem OwnI.shape {w : World} {base : Nat} {v : Value} {l : List It} (h : OwnI w base v l) : (l = [] ∧ v = .slice none 0 0) ∨ ∃ g cap, v = .slice (some ⟨g, 0, none⟩) l.length cap ∧ l.length ≤ cap := by
  unfold OwnI at h
  rcases h.2 with ⟨e0, e1⟩ | ⟨g, cap, cur, e0, hg, hh, h1, h2, _⟩
  · exact .inl ⟨List.eq_nil_of_length_eq_zero e1, e0⟩
  · exact .inr ⟨g, cap, e0, h1⟩
theorem wpList_app_items {w : World} {ops : Array Oper} {rest : List Oper} {o : Oper} {a : Act} {Q : Exit → Act → World → Prop} (hgd : o.guard = none) (s x : Operand) (ho : o.op = .call { callee := .builtin .append, args := #[s, x], argTypes := #[35, 35] })
    (base : Nat) (v : Value) (l : List It) (hs : a.eval s = v) (hown : OwnI w base v l) (pa : Option Addr) (c : Nat) (ys : List It) (hx : a.eval x = .slice pa ys.length c) (hy : ItemsSl w pa ys)
    (hl : l.length + ys.length ≤ 1073741824) (hbase : base ≤ w.heap.size)
    (h : ∀ v' w', OwnI w' base v' (l ++ ys) → w.grownBy w' v.ownBlock → wpList Tryz.prog ops Q rest (a.put o.dst v') w') : wpList Tryz.prog ops Q (o :: rest) a w := by
  obtain ⟨i, hi, hz, hsize, hby⟩ := info_parts info_item
  by_cases hne : ys = []
  · subst hne
    have hsrc : Src Tryz.prog i.size 35 (.slice pa 0 c) 0 [] w := by
      cases pa with
      | none => exact Src.ofNil w Tryz.underlying35 c
      | some ad => exact Src.ofSlice w Tryz.underlying35 ad 0 c [] (by simp) (by simp) (by simp)
    refine wpList_plain hgd fun K hK => ?_
    have hrun : (Builtin.append_ #[35, 35] o.type #[v, .slice pa 0 c]).run Tryz.prog w = .ok v w := by
      rcases hown.shape with ⟨_, rfl⟩ | ⟨g, c, rfl, h1⟩
      · exact run_append_nothing w _ _ _ 47 i Tryz.underlying35 hi none 0 0 (Nat.le_refl _) _ hsrc
      · exact run_append_nothing w _ _ _ 47 i Tryz.underlying35 hi _ _ _ h1 _ hsrc
    have hx0 : a.eval x = .slice pa 0 c := hx
    unfold Oper.wp
    simp [execOp, ho, resolve, invoke, builtin, hs, hx0, hrun, Result.andThen]
    refine hK _ _ (h v w (by rw [List.append_nil]; exact hown) (below_grownBy (Below.refl _ _) _))
  · obtain ⟨b, off, rfl, hb, hcells⟩ := hy.cellsAt hne
    refine wpList_append_own _ hgd s x 35 ho base 47 i _ 3 40 Tryz.underlying35 hi hz hsize hby rfl (by decide) v _ _ hs hown _ ys.length c (itemsV ys) hx (itemsV_len ys) hcells (itemsV_one ys) (by unfold maxLen; omega) (by omega) hbase ?_
    intro v' w' h1 h2 _
    refine h v' w' ?_ h2
    unfold OwnI
    rw [List.length_append, itemsV_app]
    exact h1
end Go.Proofs.YtakcfgmibijdnaaGreatDoor

/- The reference's Same of chapter 16, of any slices of items. -/
namespace Go.Proofs.YtakcfgmibijdnaaGreatDoor
open Go.RowKit

set_option maxHeartbeats 1600000 in
set_option maxRecDepth 100000 in
theorem ref16_SameSl (a1 : Option Addr) (c1 : Nat) (a2 : Option Addr) (c2 : Nat) (l1 l2 : List It) (w : World) (h1 : ItemsSl w a1 l1) (h2 : ItemsSl w a2 l2) (hn1 : l1.length ≤ 16777216) (hn2 : l2.length ≤ 16777216) :
    Calls Tryz.prog 34 #[.slice a1 l1.length c1, .slice a2 l2.length c2] w fun e w' => e = .returned (.bool (decide (l1 = l2))) ∧ ∃ m, w.drewN m = w' := by
  by_cases hn : l1.length = l2.length
  · go_enter Tryz.func34, Tryz.ntmps34
    have hnI : ((l1.length : Int) != (l2.length : Int)) = false := by simp; omega
    have h12 : l1.length ≤ l2.length := by omega
    have HN := Lib.hid hn
    clear hn
    go_wp2_with fail
    go_loopw [5] (fun i wr => ∃ k m : Nat, k ≤ l1.length ∧ i = .int .i64 k ∧ w.drewN m = wr ∧ l1.take k = l2.take k) (fun i _ => l1.length - (intOf i).toNat)
    case atStart => exact ⟨0, 0, Nat.zero_le _, rfl, rfl, rfl⟩
    case round =>
      obtain ⟨k, m, hk, rfl, rfl, hall⟩ := hrel
      have HA := Lib.hid hall
      clear hall
      by_cases hlt : k < l1.length
      · obtain ⟨x, hx⟩ : ∃ x, l1[k]? = some x := ⟨_, List.getElem?_eq_getElem hlt⟩
        obtain ⟨y, hy⟩ : ∃ y, l2[k]? = some y := ⟨_, List.getElem?_eq_getElem (by omega)⟩
        obtain ⟨b1, o1, rfl, hb1, d0, d1, d2⟩ := h1 k x hx
        obtain ⟨b2, o2, rfl, hb2, e0, e1, e2⟩ := h2 k y hy
        have i1 : (k : Int) < (l1.length : Int) := by omega
        have i2 : (k : Int) < (l2.length : Int) := by omega
        have hcm := fun W => neq_item x.name x.value x.has y.name y.value y.has W
        have hstep : x = y → l1.take (k + 1) = l2.take (k + 1) := by
          intro e
          rw [List.take_add_one, List.take_add_one, HA.out, hx, hy, e]
        have hne : x ≠ y → l1 ≠ l2 := by
          intro e e'
          rw [e', hy] at hx
          exact e (Option.some.inj hx).symm
        have HS := Lib.hid hstep
        have HNE := Lib.hid hne
        clear hstep hne hx hy h1 h2
        obtain ⟨xn, xv, xh⟩ := x
        obtain ⟨yn, yv, yh⟩ := y
        by_cases hxy : (⟨xn, xv, xh⟩ : It) = ⟨yn, yv, yh⟩
        · simp only [decide_eq_true hxy, Bool.not_true] at hcm
          have HX := Lib.hid (HS.out hxy)
          clear hxy HS HNE
          go_wp2_with fail
          go_quiet (fail)
          go_wp2_with fail
          go_roundw
          case rel => exact ⟨k + 1, _, by omega, by go_num, rfl, HX.out⟩
          case measure => simp [intOf]; omega
        · simp only [decide_eq_false hxy, Bool.not_false] at hcm
          have HX := Lib.hid (HNE.out hxy)
          clear hxy HS HNE
          go_wp2_with fail
          go_quiet (fail)
          go_wp2_with fail
          go_ret
          exact ⟨ret_bool (decide_eq_false HX.out).symm, _, (World.drewN_drewN _ _ _).symm⟩
      · obtain rfl : k = l1.length := by omega
        have heq : l1 = l2 := by
          have := HA.out
          rw [List.take_length, HN.out, List.take_length] at this
          exact this
        have HE := Lib.hid heq
        clear heq h1 h2
        go_wp2_with fail
        go_ret
        exact ⟨ret_bool (decide_eq_true HE.out).symm, _, rfl⟩
  · have e1 : ((l1.length : Int) != (l2.length : Int)) = true := by simp; omega
    have hne : l1 ≠ l2 := fun h => hn (by rw [h])
    have HNE := Lib.hid hne
    clear hne hn
    go_enter Tryz.func34, Tryz.ntmps34
    go_wp2_with fail
    go_ret
    exact ⟨ret_bool (decide_eq_false HNE.out).symm, 0, rfl⟩
end Go.Proofs.YtakcfgmibijdnaaGreatDoor

/- The walk of QueryWrites. -/
namespace Go.Proofs.YtakcfgmibijdnaaGreatDoor
open Go.RowKit

theorem OwnI.lit02 (w : World) (base : Nat) (hb : base ≤ w.heap.size) : OwnI (w.alloc (.cells #[] 47)) base (.slice (some ⟨w.heap.size, 0, none⟩) 0 0) [] :=
  World.ownsRow_lit w #[] 0 hb (Nat.zero_le _) rfl
theorem okS_of {s : ByteArray} : okS s.data.toList = (chrs s).2.isNone := by unfold okS; rw [ofL_list]
theorem textW_len' {l : List It} (hl : l.length ≤ 300) (hz : ∀ x ∈ l, x.name.size ≤ 200 ∧ x.value.size ≤ 200) : (ofL (textW l)).size ≤ 400000 := by
  rw [ofL_size]
  exact textW_len hl hz
theorem chars_un {s : ByteArray} {w w' : World} {e : Ending} (h : RCharsPost s w e w') : Below w.heap.size w w' ∧ ∃ (v : Value) (n : Int), e = .returned (.tuple #[v, .int .i64 n]) ∧ ((n = -1 ∧ (chrs s).2 = none) ∨ 0 ≤ n) := by
  obtain ⟨hb, h⟩ := h
  rcases h with ⟨h1, v, rfl, _⟩ | ⟨i, _, a, rfl⟩
  · exact ⟨hb, v, -1, rfl, .inl ⟨rfl, h1⟩⟩
  · exact ⟨hb, _, i, rfl, .inr (by omega)⟩
theorem empty_yes {s : ByteArray} (h : s.size = 0) : (s.toList == []) = true := by
  have := isEmpty_yes h
  rw [List.isEmpty_iff] at this
  rw [this]; rfl
theorem empty_no {s : ByteArray} (h : s.size ≠ 0) : (s.toList == []) = false := by
  have := isEmpty_no (Nat.pos_of_ne_zero h)
  cases hl : s.toList with
  | nil => rw [hl] at this; cases this
  | cons a l => rfl
set_option maxHeartbeats 12800000 in
set_option maxRecDepth 100000 in
theorem qwrites_walk (pa : Option Addr) (ca : Nat) (la : List It) (w : World) (hU : Utf8Laid w) (hg : Handle w) (ha : ItemsSl w pa la) (hca : la.length ≤ ca) (hcam : ca ≤ maxLen) (za : sizedI la) :
    Calls Tryz.prog 6 #[.slice pa la.length ca] w fun e w' => e = .returned (.bool true) ∧ Below w.heap.size w w' := by
  have g1 := Lib.hid (fun W hb => query_great pa ca la W (ha.below (w' := W) hb) za (by omega))
  unfold maxLen at hcam
  have hga := Lib.hid (fun h => great_no (l := la) h)
  generalize greatI la = ga at *
  have HA := Lib.hid ha
  have HU := Lib.hid hU
  clear ha hU
  cases ga with
  | true =>
    go_enter Tryz.func6, Tryz.ntmps6
    go_wp2_with fail
    refine (speaks16 _ hg HU.out).mono ?_
    rintro e w1 ⟨rfl, hb1⟩
    go_wp2_with fail
    refine (g1.out _ hb1).mono ?_
    rintro e w2 ⟨rfl, hb2⟩
    have hb12 := Bt hb1 hb2
    go_wp2_with fail
    go_ret
    exact ⟨rfl, hb12⟩
  | false =>
  obtain ⟨la3, laz⟩ := hga.out rfl
  have htl := textW_len' la3 laz
  have HLZ := Lib.hid laz
  have cT := Lib.hid (fun qa qc W (h : ItemsSl W qa la) => query_Text qa qc la W h la3 laz)
  have cR := Lib.hid (fun qa qc W (h : ItemsSl W qa la) => ref16_Text qa qc la W h la3 laz)
  have cS : Hid (∀ a1 c1 a2 c2 W, ItemsSl W a1 la → ItemsSl W a2 la → Calls Tryz.prog 34 #[.slice a1 la.length c1, .slice a2 la.length c2] W fun e w' => e = .returned (.bool true) ∧ ∃ m, W.drewN m = w') := Lib.hid (fun a1 c1 a2 c2 W h1 h2 => by
    have := ref16_SameSl a1 c1 a2 c2 la la W h1 h2 (by omega) (by omega)
    rw [decide_eq_true rfl] at this
    exact this)
  have hbk := fun h1 h2 => items_back (l := la) h1 h2
  have HBK := Lib.hid hbk
  have eT : ((ofL (textW la)).toList == (ofL (textW la)).toList) = true := beq_self_eq_true _
  have cI := Lib.hid (fun W h1 h2 => query_Items' (ofL (textW la)) W h1 h2 (by omega))
  generalize ofL (textW la) = T at *
  clear hga laz hbk
  go_enter Tryz.func6, Tryz.ntmps6
  go_wp2_with fail
  refine (speaks16 _ hg HU.out).mono ?_
  rintro e w1 ⟨rfl, hb1⟩
  go_wp2_with fail
  refine (g1.out _ hb1).mono ?_
  rintro e w4 ⟨rfl, hb4⟩
  have hb14 := Bt hb1 hb4
  clear hb1 hb4 g1
  have hst5 := (Below.refl w4.heap.size w4).alloc (Nat.le_refl _) (.cells #[] 47)
  have O5 := Lib.hid (OwnI.lit02 w4 w4.heap.size (Nat.le_refl _))
  have I5 := Lib.hid (HA.out.below (Bt hb14 hst5))
  go_wp2_with (at_builtin; refine wpList_app_items rfl _ _ rfl w4.heap.size _ _ rfl O5.out pa ca la rfl I5.out (by first | omega | (simp; omega)) (by simp) ?_)
  intro v6 w6 hown6 hg6
  have hst6 := O5.out.under hst5 (Nat.le_refl _) hg6
  replace hown6 : OwnI w6 w4.heap.size v6 la := hown6
  obtain ⟨qa, qc, rfl, hqc, hqcm, hsal⟩ := hown6.sl
  have HIN := Lib.hid hsal.items
  have HB6 := Lib.hid (Bt hb14 hst6)
  have HL6 := Lib.hid (HA.out.below HB6.out)
  clear hg6 I5 O5 hst5 hown6 hst6 hb14 hsal
  go_wp2_with fail
  refine (cT.out qa qc _ HIN.out).mono ?_
  rintro e w7 ⟨rfl, hb7⟩
  have HB7 := Lib.hid (Bt HB6.out hb7)
  have HIN7 := Lib.hid (HIN.out.below hb7)
  have HL7 := Lib.hid (HL6.out.below hb7)
  clear hb7
  go_wp2_with fail
  refine (cR.out pa ca _ HL7.out).mono ?_
  rintro e w8 ⟨rfl, hb8⟩
  have HB8 := Lib.hid (Bt HB7.out hb8)
  have HIN8 := Lib.hid (HIN7.out.below hb8)
  have HL8 := Lib.hid (HL7.out.below hb8)
  clear hb8
  go_wp2_with fail
  refine (cS.out qa qc pa ca _ HIN8.out HL8.out).mono ?_
  rintro e w9 ⟨rfl, q9, hq9⟩
  have HB9 := Lib.hid (show Below w.heap.size w w9 by rw [← hq9]; exact below_drewN HB8.out q9)
  clear hq9 HIN HIN7 HIN8 HL6 HL7 HL8 HB6 HB7 HB8 cT cR
  by_cases h256 : 256 < la.length
  · have hI : (la.length : Int) > 256 := by omega
    have hbE := HB9.out
    go_wp2_with fail
    go_ret
    exact ⟨rfl, hbE⟩
  have hI : ¬ (la.length : Int) > 256 := by omega
  go_wp2_with fail
  go_loopw [37] (fun x wr => ∃ i : Nat, i ≤ la.length ∧ x = .int .i64 i ∧ (∀ j p, j < i → la[j]? = some p → goodI p) ∧ Below w.heap.size w wr) (fun x _ => la.length - (intOf x).toNat)
  case atStart => exact ⟨0, Nat.zero_le _, rfl, fun j p hj => absurd hj (Nat.not_lt_zero _), HB9.out⟩
  case round =>
    obtain ⟨i, hil, rfl, hall, hbr⟩ := hrel
    have HALL := Lib.hid hall
    have HBR := Lib.hid hbr
    clear hall
    by_cases hlt : i < la.length
    · obtain ⟨p, hx⟩ : ∃ p, la[i]? = some p := ⟨_, List.getElem?_eq_getElem hlt⟩
      obtain ⟨b, off, rfl, hb, d0, d1, d2⟩ := (HA.out.below hbr) i p hx
      have hpz := HLZ.out p (List.mem_of_getElem? hx)
      have hnext : goodI p → ∀ j q, j < i + 1 → la[j]? = some q → goodI q := fun h j q hj hq => by
        by_cases e : j = i
        · subst e; rw [hx] at hq; cases hq; exact h
        · exact HALL.out j q (by omega) hq
      have HNX := Lib.hid hnext
      obtain ⟨pn, pv, ph⟩ := p
      dsimp only at hpz d0 d1 d2
      have hn1 := hpz.1
      have hn2 := hpz.2
      have hgood : (chrs pn).2 = none → (chrs pv).2 = none → (ph = false → pn.size ≠ 0) → (ph = false → pv.size = 0) → goodI ⟨pn, pv, ph⟩ := fun h1 h2 h3 h4 =>
        ⟨by show okS pn.data.toList = true; rw [okS_of, h1]; rfl, by show okS pv.data.toList = true; rw [okS_of, h2]; rfl, fun h e => h3 h (by show pn.data.toList.length = 0; rw [e]; rfl), fun h => List.eq_nil_of_length_eq_zero (h4 h)⟩
      have HGD := Lib.hid hgood
      have hiI : (i : Int) < (la.length : Int) := by omega
      have hstA : Below wr.heap.size wr (wr.alloc (.cells #[.string pn, .string pv, .bool ph] 47)) := (Below.refl _ _).alloc (Nat.le_refl _) _
      have HBA := Lib.hid (Bt hbr hstA)
      have hitA : ItemAt (wr.alloc (.cells #[.string pn, .string pv, .bool ph] 47)) wr.heap.size pn pv ph := ItemAt.new
      have cC1 := Lib.hid (fun v W h => ref_Chars v pn W (by omega) h)
      have cC2 := Lib.hid (fun v W h => ref_Chars v pv W (by omega) h)
      obtain ⟨k0, k1, k2⟩ := hitA.cells
      clear hx hpz hbr hnext hgood hstA
      go_wp2_with ((with_reducible refine wpList_bytes_sl rfl 9 56 5 _ rfl pn rfl Tryz.underlying9 Tryz.underlying56 Tryz.underlying5 (by omega) ?_); intro v1 w2 hv1 hb2)
      have hit2 := hitA.below hb2
      have HB2 := Lib.hid (Bt HBA.out hb2)
      clear hb2 k0 k1 k2 hitA
      go_wp2_with fail
      refine ((cC1.out v1 w2 hv1).mono fun _ _ h => chars_un h).mono ?_
      rintro e w3 ⟨hb3, x1, n1, rfl, hn1c⟩
      have hit3 := hit2.below hb3
      have HB3 := Lib.hid (Bt HB2.out hb3)
      obtain ⟨k0, k1, k2⟩ := hit3.cells
      clear hb3 hit2 hv1
      go_wp2_with ((with_reducible refine wpList_bytes_sl rfl 9 56 5 _ rfl pv rfl Tryz.underlying9 Tryz.underlying56 Tryz.underlying5 (by omega) ?_); intro v4 w4 hv4 hb4)
      have hit4 := hit3.below hb4
      have HB4 := Lib.hid (Bt HB3.out hb4)
      clear hb4 k0 k1 k2 hit3
      go_wp2_with fail
      refine ((cC2.out v4 w4 hv4).mono fun _ _ h => chars_un h).mono ?_
      rintro e w5 ⟨hb5, x2, n2, rfl, hn2c⟩
      have hit5 := hit4.below hb5
      have HB5 := Lib.hid (Bt HB4.out hb5)
      obtain ⟨k0, k1, k2⟩ := hit5.cells
      have hbE := HB5.out
      clear hb5 hit4 hv4 hit5
      by_cases c1 : n1 ≥ 0
      · clear hn1c hn2c
        go_wp2_with fail
        go_ret
        exact ⟨rfl, hbE⟩
      obtain ⟨rfl, hc1⟩ : n1 = -1 ∧ (chrs pn).2 = none := by rcases hn1c with h | h; exact h; exact absurd h c1
      by_cases c2 : n2 ≥ 0
      · clear hn1c hn2c hc1
        go_wp2_with fail
        go_ret
        exact ⟨rfl, hbE⟩
      obtain ⟨rfl, hc2⟩ : n2 = -1 ∧ (chrs pv).2 = none := by rcases hn2c with h | h; exact h; exact absurd h c2
      have HC1 := Lib.hid hc1
      have HC2 := Lib.hid hc2
      clear hn1c hn2c c1 c2 hc1 hc2
      cases ph with
      | true =>
        have hg1 := HGD.out HC1.out HC2.out (fun h => by cases h) (fun h => by cases h)
        have HN := Lib.hid (HNX.out hg1)
        clear hg1
        by_cases hp0 : pn.size = 0
        · have e1 := isEmpty_yes hp0
          have e2 := empty_yes hp0
          clear hp0
          go_wp2_with fail
          go_roundw
          case rel => exact ⟨i + 1, by omega, by go_num, HN.out, hbE⟩
          case measure => simp [intOf]; omega
        · have e1 := isEmpty_no (Nat.pos_of_ne_zero hp0)
          have e2 := empty_no hp0
          clear hp0
          go_wp2_with fail
          go_roundw
          case rel => exact ⟨i + 1, by omega, by go_num, HN.out, hbE⟩
          case measure => simp [intOf]; omega
      | false =>
        by_cases hp0 : pn.size = 0
        · have e1 := isEmpty_yes hp0
          have e2 := empty_yes hp0
          clear hp0
          go_wp2_with fail
          go_ret
          exact ⟨rfl, hbE⟩
        have e1 := isEmpty_no (Nat.pos_of_ne_zero hp0)
        have e2 := empty_no hp0
        by_cases hv0 : pv.size = 0
        · have hg1 := HGD.out HC1.out HC2.out (fun _ => hp0) (fun _ => hv0)
          have HN := Lib.hid (HNX.out hg1)
          have e3 := isEmpty_yes hv0
          have e4 := empty_yes hv0
          clear hg1 hp0 hv0
          go_wp2_with fail
          go_roundw
          case rel => exact ⟨i + 1, by omega, by go_num, HN.out, hbE⟩
          case measure => simp [intOf]; omega
        · have e3 := isEmpty_no (Nat.pos_of_ne_zero hv0)
          have e4 := empty_no hv0
          clear hp0 hv0
          go_wp2_with fail
          go_ret
          exact ⟨rfl, hbE⟩
    · obtain rfl : i = la.length := by omega
      have hiI : ¬ (la.length : Int) < (la.length : Int) := by omega
      have hgd : ∀ x ∈ la, goodI x := fun x hx => by
        obtain ⟨j, hj, rfl⟩ := List.mem_iff_getElem.1 hx
        exact HALL.out j _ hj (List.getElem?_eq_getElem hj)
      have hit := HBK.out hgd (by omega)
      have HIT := Lib.hid hit
      have HLr := Lib.hid (HA.out.below hbr)
      clear hgd hit
      go_wp2_with fail
      refine (cI.out _ (hg.below hbr) (HU.out.below hbr)).mono ?_
      rintro e w2 ⟨hb2, a, c, v, rfl, h1, h2, h3, h4⟩
      rw [HIT.out] at h1 h3 h4 ⊢
      dsimp only at h1 h3 h4 ⊢
      rcases h4 with ⟨_, rfl⟩ | ⟨h, _⟩
      · have HB2 := Lib.hid (Bt HBR.out hb2)
        have HL2 := Lib.hid (HLr.out.below hb2)
        have HI2 := Lib.hid h3.items
        clear hb2 h3 hbr
        go_wp2_with fail
        refine (cS.out a c pa ca _ HI2.out HL2.out).mono ?_
        rintro e w3 ⟨rfl, q3, hq3⟩
        have hbE : Below w.heap.size w w3 := by rw [← hq3]; exact below_drewN HB2.out q3
        clear hq3
        go_wp2_with fail
        go_ret
        exact ⟨rfl, hbE⟩
      · exact absurd rfl h
theorem walkQueryWrites (pa : Option Addr) (la : List It) (ca : Nat) (w : World) (hg : Handle w) (hU : Utf8Laid w) (hca : la.length ≤ ca) (hcam : ca ≤ maxLen) (ha : ItemsSl w pa la) (za : sizedI la) :
    Calls Tryz.prog 6 #[.slice pa la.length ca] w fun e w' => e = .returned (.bool true) ∧ Below w.heap.size w w' := qwrites_walk pa ca la w hU hg ha hca hcam za
end Go.Proofs.YtakcfgmibijdnaaGreatDoor
