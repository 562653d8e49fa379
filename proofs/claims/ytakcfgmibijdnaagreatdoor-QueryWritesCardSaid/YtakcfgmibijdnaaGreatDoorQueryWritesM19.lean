/- append(x, y...) of items. -/
import Derived.Test.YtakcfgmibijdnaaGreatDoorQueryWritesM6
import Derived.Deep.AppendSrc
import Derived.Test.YtakcfgmibijdnaaGreatDoorQueryWritesM8
import Derived.Test.YtakcfgmibijdnaaGreatDoorQueryWritesM15
import Derived.Test.YtakcfgmibijdnaaGreatDoorQueryWritesM18
import Derived.Test.YtakcfgmibijdnaaGreatDoorQueryWritesM13

namespace Go.Proofs.YtakcfgmibijdnaaGreatDoor
open Go.RowKit

theorem ItemsSl.cellsAt {w : World} {a : Option Addr} {l : List It} (h : ItemsSl w a l) (hne : l ≠ []) : ∃ b off, a = some ⟨b, off, none⟩ ∧ b < w.heap.size ∧ ∀ j u, (itemsV l)[j]? = some u → w.cell? ((⟨b, off, none⟩ : Addr).add j) = some u := by
  obtain ⟨x, l', rfl⟩ := List.exists_cons_of_ne_nil hne
  obtain ⟨b, off, rfl, hb, _⟩ := h 0 x rfl
  refine ⟨b, off, rfl, hb, fun j u hj => ?_⟩
  have hlt := (List.getElem?_eq_some_iff.1 hj).1
  rw [itemsV_len] at hlt
  obtain ⟨p, hp⟩ : ∃ p, (x :: l')[j / 3]? = some p := ⟨_, List.getElem?_eq_getElem (by omega)⟩
  obtain ⟨b', off', e, _, h0, h1, h2⟩ := h (j / 3) p hp
  cases e
  have hm := itemsV_at hp (j % 3) (by omega)
  rw [show j / 3 * 3 + j % 3 = j by omega, hj] at hm
  rw [Addr.add_lit]
  have h3 : j % 3 = 0 ∨ j % 3 = 1 ∨ j % 3 = 2 := by omega
  rcases h3 with e | e | e
  · rw [e] at hm; rw [show off + j = off + j / 3 * 3 by omega, h0]; exact hm.symm
  · rw [e] at hm; rw [show off + j = off + j / 3 * 3 + 1 by omega, h1]; exact hm.symm
  · rw [e] at hm; rw [show off + j = off + j / 3 * 3 + 2 by omega, h2]; exact hm.symm
theorem itemsV_one (l : List It) : ∀ u ∈ itemsV l, u.oneCell' = true := by
  intro u hu
  unfold itemsV at hu
  obtain ⟨p, _, hp⟩ := List.mem_flatMap.1 hu
  exact itemC_one p u hp
theorem OwnI.shape {w : World} {base : Nat} {v : Value} {l : List It} (h : OwnI w base v l) : (l = [] ∧ v = .slice none 0 0) ∨ ∃ g cap, v = .slice (some ⟨g, 0, none⟩) l.length cap ∧ l.length ≤ cap := by
  unfold OwnI at h
  rcases h.2 with ⟨e0, e1⟩ | ⟨g, cap, cur, e0, hg, hh, h1, h2, _⟩
  · exact .inl ⟨List.eq_nil_of_length_eq_zero e1, e0⟩
  · exact .inr ⟨g, cap, e0, h1⟩
theorem wpList_app_items {w : World} {ops : Array Oper} {rest : List Oper} {o : Oper} {a : Act} {Q : Exit → Act → World → Prop} (hgd : o.guard = none) (s x : Operand) (ho : o.op = .call { callee := .builtin .append, args := #[s, x], argTypes := #[35, 35] })
    (base : Nat) (v : Value) (l : List It) (hs : a.eval s = v) (hown : OwnI w base v l) (pa : Option Addr) (c : Nat) (ys : List It) (hx : a.eval x = .slice pa ys.length c) (hy : ItemsSl w pa ys)
    (hl : l.length + ys.length ≤ 1073741824) (hbase : base ≤ w.heap.size)
    (h : ∀ v' w', OwnI w' base v' (l ++ ys) → w.grownBy w' v.ownBlock → wpList Tryz.prog ops Q rest (a.put o.dst v') w') : wpList Tryz.prog ops Q (o :: rest) a w := by
  obtain ⟨i, hi, hz, hsize, hby⟩ := info_parts info_item
  by_cases hne : ys = []
  · subst hne
    have hsrc : Src Tryz.prog i.size 35 (.slice pa 0 c) 0 [] w := by
      cases pa with
      | none => exact Src.ofNil w Tryz.underlying35 c
      | some ad => exact Src.ofSlice w Tryz.underlying35 ad 0 c [] (by simp) (by simp) (by simp)
    refine wpList_plain hgd fun K hK => ?_
    have hrun : (Builtin.append_ #[35, 35] o.type #[v, .slice pa 0 c]).run Tryz.prog w = .ok v w := by
      rcases hown.shape with ⟨_, rfl⟩ | ⟨g, c, rfl, h1⟩
      · exact run_append_nothing w _ _ _ 47 i Tryz.underlying35 hi none 0 0 (Nat.le_refl _) _ hsrc
      · exact run_append_nothing w _ _ _ 47 i Tryz.underlying35 hi _ _ _ h1 _ hsrc
    have hx0 : a.eval x = .slice pa 0 c := hx
    unfold Oper.wp
    simp [execOp, ho, resolve, invoke, builtin, hs, hx0, hrun, Result.andThen]
    refine hK _ _ (h v w (by rw [List.append_nil]; exact hown) (below_grownBy (Below.refl _ _) _))
  · obtain ⟨b, off, rfl, hb, hcells⟩ := hy.cellsAt hne
    refine wpList_append_own _ hgd s x 35 ho base 47 i _ 3 40 Tryz.underlying35 hi hz hsize hby rfl (by decide) v _ _ hs hown _ ys.length c (itemsV ys) hx (itemsV_len ys) hcells (itemsV_one ys) (by unfold maxLen; omega) (by omega) hbase ?_
    intro v' w' h1 h2 _
    refine h v' w' ?_ h2
    unfold OwnI
    rw [List.length_append, itemsV_app]
    exact h1
end Go.Proofs.YtakcfgmibijdnaaGreatDoor

/- The reference's Same of chapter 16, of any slices of items. -/
namespace Go.Proofs.YtakcfgmibijdnaaGreatDoor
open Go.RowKit

set_option maxHeartbeats 1600000 in
set_option maxRecDepth 100000 in
theorem ref16_SameSl (a1 : Option Addr) (c1 : Nat) (a2 : Option Addr) (c2 : Nat) (l1 l2 : List It) (w : World) (h1 : ItemsSl w a1 l1) (h2 : ItemsSl w a2 l2) (hn1 : l1.length ≤ 16777216) (hn2 : l2.length ≤ 16777216) :
    Calls Tryz.prog 34 #[.slice a1 l1.length c1, .slice a2 l2.length c2] w fun e w' => e = .returned (.bool (decide (l1 = l2))) ∧ ∃ m, w.drewN m = w' := by
  by_cases hn : l1.length = l2.length
  · go_enter Tryz.func34, Tryz.ntmps34
    have hnI : ((l1.length : Int) != (l2.length : Int)) = false := by simp; omega
    have h12 : l1.length ≤ l2.length := by omega
    have HN := Lib.hid hn
    clear hn
    go_wp2_with fail
    go_loopw [5] (fun i wr => ∃ k m : Nat, k ≤ l1.length ∧ i = .int .i64 k ∧ w.drewN m = wr ∧ l1.take k = l2.take k) (fun i _ => l1.length - (intOf i).toNat)
    case atStart => exact ⟨0, 0, Nat.zero_le _, rfl, rfl, rfl⟩
    case round =>
      obtain ⟨k, m, hk, rfl, rfl, hall⟩ := hrel
      have HA := Lib.hid hall
      clear hall
      by_cases hlt : k < l1.length
      · obtain ⟨x, hx⟩ : ∃ x, l1[k]? = some x := ⟨_, List.getElem?_eq_getElem hlt⟩
        obtain ⟨y, hy⟩ : ∃ y, l2[k]? = some y := ⟨_, List.getElem?_eq_getElem (by omega)⟩
        obtain ⟨b1, o1, rfl, hb1, d0, d1, d2⟩ := h1 k x hx
        obtain ⟨b2, o2, rfl, hb2, e0, e1, e2⟩ := h2 k y hy
        have i1 : (k : Int) < (l1.length : Int) := by omega
        have i2 : (k : Int) < (l2.length : Int) := by omega
        have hcm := fun W => neq_item x.name x.value x.has y.name y.value y.has W
        have hstep : x = y → l1.take (k + 1) = l2.take (k + 1) := by
          intro e
          rw [List.take_add_one, List.take_add_one, HA.out, hx, hy, e]
        have hne : x ≠ y → l1 ≠ l2 := by
          intro e e'
          rw [e', hy] at hx
          exact e (Option.some.inj hx).symm
        have HS := Lib.hid hstep
        have HNE := Lib.hid hne
        clear hstep hne hx hy h1 h2
        obtain ⟨xn, xv, xh⟩ := x
        obtain ⟨yn, yv, yh⟩ := y
        by_cases hxy : (⟨xn, xv, xh⟩ : It) = ⟨yn, yv, yh⟩
        · simp only [decide_eq_true hxy, Bool.not_true] at hcm
          have HX := Lib.hid (HS.out hxy)
          clear hxy HS HNE
          go_wp2_with fail
          go_quiet (fail)
          go_wp2_with fail
          go_roundw
          case rel => exact ⟨k + 1, _, by omega, by go_num, rfl, HX.out⟩
          case measure => simp [intOf]; omega
        · simp only [decide_eq_false hxy, Bool.not_false] at hcm
          have HX := Lib.hid (HNE.out hxy)
          clear hxy HS HNE
          go_wp2_with fail
          go_quiet (fail)
          go_wp2_with fail
          go_ret
          exact ⟨ret_bool (decide_eq_false HX.out).symm, _, (World.drewN_drewN _ _ _).symm⟩
      · obtain rfl : k = l1.length := by omega
        have heq : l1 = l2 := by
          have := HA.out
          rw [List.take_length, HN.out, List.take_length] at this
          exact this
        have HE := Lib.hid heq
        clear heq h1 h2
        go_wp2_with fail
        go_ret
        exact ⟨ret_bool (decide_eq_true HE.out).symm, _, rfl⟩
  · have e1 : ((l1.length : Int) != (l2.length : Int)) = true := by simp; omega
    have hne : l1 ≠ l2 := fun h => hn (by rw [h])
    have HNE := Lib.hid hne
    clear hne hn
    go_enter Tryz.func34, Tryz.ntmps34
    go_wp2_with fail
    go_ret
    exact ⟨ret_bool (decide_eq_false HNE.out).symm, 0, rfl⟩
end Go.Proofs.YtakcfgmibijdnaaGreatDoor

/- The walk of QueryWrites. -/
namespace Go.Proofs.YtakcfgmibijdnaaGreatDoor
open Go.RowKit

theorem OwnI.lit02 (w : World) (base : Nat) (hb : base ≤ w.heap.size) : OwnI (w.alloc (.cells #[] 47)) base (.slice (some ⟨w.heap.size, 0, none⟩) 0 0) [] :=
  World.ownsRow_lit w #[] 0 hb (Nat.zero_le _) rfl
theorem okS_of {s : ByteArray} : okS s.data.toList = (chrs s).2.isNone := by unfold okS; rw [ofL_list]
theorem chars_un {s : ByteArray} {w w' : World} {e : Ending} (h : RCharsPost s w e w') : Below w.heap.size w w' ∧ ∃ (v : Value) (n : Int), e = .returned (.tuple #[v, .int .i64 n]) ∧ ((n = -1 ∧ (chrs s).2 = none) ∨ 0 ≤ n) := by
  obtain ⟨hb, h⟩ := h
  rcases h with ⟨h1, v, rfl, _⟩ | ⟨i, _, a, rfl⟩
  · exact ⟨hb, v, -1, rfl, .inl ⟨rfl, h1⟩⟩
  · exact ⟨hb, _, i, rfl, .inr (by omega)⟩
theorem empty_yes {s : ByteArray} (h : s.size = 0) : (s.toList == []) = true := by
  have := isEmpty_yes h
  rw [List.isEmpty_iff] at this
  rw [this]; rfl
theorem empty_no {s : ByteArray} (h : s.size ≠ 0) : (s.toList == []) = false := by
  have := isEmpty_no (Nat.pos_of_ne_zero h)
  cases hl : s.toList with
  | nil => rw [hl] at this; cases this
  | cons a l => rfl
end Go.Proofs.YtakcfgmibijdnaaGreatDoor
