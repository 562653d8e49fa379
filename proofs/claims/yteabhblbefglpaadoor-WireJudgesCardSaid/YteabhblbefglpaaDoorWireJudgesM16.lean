/- The reference of chapter 17: Param, JSON. -/
import Derived.Test.YteabhblbefglpaaDoorWireJudgesM12
import Derived.Test.YteabhblbefglpaaDoorWireJudgesM10
import Derived.Test.YteabhblbefglpaaDoorWireJudgesM15
import Derived.Test.YteabhblbefglpaaDoorWireJudgesM11

namespace Go.Proofs.YteabhblbefglpaaDoor
open Go.RowKit

theorem paramM_none {l : List It} {n : ByteArray} (h : ∀ (j : Nat) (y : It), j < l.length → l[j]? = some y → y.name ≠ n) : paramM l n = none := by
  unfold paramM
  rw [Option.map_eq_none_iff, List.find?_eq_none]
  intro x hx
  obtain ⟨j, hj, rfl⟩ := List.mem_iff_getElem.1 hx
  exact fun e => h j _ hj (List.getElem?_eq_getElem hj) (of_decide_eq_true e)
theorem paramM_some {l : List It} {n : ByteArray} {i : Nat} {x : It} (hx : l[i]? = some x) (hn : x.name = n) (h : ∀ (j : Nat) (y : It), j < i → l[j]? = some y → y.name ≠ n) : paramM l n = some x.value := by
  unfold paramM
  have : l.find? (fun y => decide (y.name = n)) = some x := by
    rw [List.find?_eq_some_iff_getElem]
    obtain ⟨hi, hxi⟩ := List.getElem?_eq_some_iff.1 hx
    refine ⟨decide_eq_true hn, i, hi, hxi, fun j hj => ?_⟩
    simpa using h j _ hj (List.getElem?_eq_getElem (by omega))
  rw [this]
  rfl
set_option maxHeartbeats 1600000 in
set_option maxRecDepth 100000 in
theorem ref17_Param (a b n : ByteArray) (pa : Option Addr) (c : Nat) (l : List It) (w : World) (hsl : ItemsOwn w pa l) (hl : l.length ≤ 16777216) :
    Calls Tryd.prog 81 #[.agg #[.string a, .string b, .slice pa l.length c], .string n] w fun e w' => Below w.heap.size w w' ∧ ((paramM l n = none ∧ e = .returned (.tuple #[.string ⟨#[]⟩, .bool false])) ∨ (∃ v, paramM l n = some v ∧ e = .returned (.tuple #[.string v, .bool true]))) := by
  have hm1 : MediaAt (w.alloc (.cells #[.string a, .string b, .slice pa l.length c] 116)) w.heap.size a b pa l.length c := MediaAt.new
  have hst1 := (Below.refl w.heap.size w).alloc (Nat.le_refl _) (.cells #[.string a, .string b, .slice pa l.length c] 116)
  have hs1 := hsl.below hst1
  obtain ⟨_, _, k2⟩ := hm1.cells
  clear hm1 hsl
  go_enter Tryd.func81, Tryd.ntmps81
  go_wp2_with fail
  go_loopw [6] (fun x wr => ∃ i : Nat, i ≤ l.length ∧ x = .int .i64 i ∧ (w.alloc (.cells #[.string a, .string b, .slice pa l.length c] 116)) = wr ∧ ∀ (j : Nat) (y : It), j < i → l[j]? = some y → y.name ≠ n) (fun x _ => l.length - (intOf x).toNat)
  case atStart => exact ⟨0, Nat.zero_le _, rfl, rfl, fun j y h => by omega⟩
  case round =>
    obtain ⟨i, hil, rfl, rfl, hall⟩ := hrel
    have HA := Lib.hid hall
    clear hall
    by_cases hlt : i < l.length
    · obtain ⟨x, hx⟩ : ∃ x, l[i]? = some x := ⟨_, List.getElem?_eq_getElem hlt⟩
      have hiI : (i : Int) < (l.length : Int) := by omega
      have hnx : x.name ≠ n → ∀ (j : Nat) (z : It), j < i + 1 → l[j]? = some z → z.name ≠ n := fun h j z hj hz => by
        by_cases hjk : j = i
        · subst hjk; rw [hx] at hz; cases hz; exact h
        · exact HA.out j z (by omega) hz
      have hfo := fun h => paramM_some hx h HA.out
      have HNX := Lib.hid hnx
      have HFO := Lib.hid hfo
      obtain ⟨p, rfl, hp, d0, d1, _⟩ := hs1 i x hx
      have he : (x.name.toList == n.toList) = decide (x.name = n) := str_eqB _ _
      clear hnx hfo hx hs1
      obtain ⟨xn, xv, xh⟩ := x
      by_cases hyx : xn = n
      · have HX := Lib.hid (HFO.out hyx)
        rw [decide_eq_true hyx] at he
        clear hyx HNX HFO
        go_wp2_with fail
        go_ret2
        exact ⟨hst1, .inr ⟨xv, HX.out, rfl⟩⟩
      · have HX := Lib.hid (HNX.out hyx)
        rw [decide_eq_false hyx] at he
        clear hyx HNX HFO
        go_wp2_with fail
        go_roundw
        case rel => exact ⟨i + 1, by omega, by go_num, by first | rfl | trivial, HX.out⟩
        case measure => simp [intOf]; omega
    · obtain rfl : i = l.length := by omega
      have HX := Lib.hid (paramM_none HA.out)
      go_wp2_with fail
      go_ret2
      exact ⟨hst1, .inl ⟨HX.out, rfl⟩⟩
set_option maxHeartbeats 1600000 in
set_option maxRecDepth 100000 in
theorem ref17_JSON (a b : ByteArray) (pa : Option Addr) (l c : Nat) (w : World) (hb : b.size ≤ 16777216) :
    Calls Tryd.prog 82 #[.agg #[.string a, .string b, .slice pa l c]] w fun e w' => e = .returned (.bool (jsonB a b)) ∧ Below w.heap.size w w' := by
  have hm1 : MediaAt (w.alloc (.cells #[.string a, .string b, .slice pa l c] 116)) w.heap.size a b pa l c := MediaAt.new
  have hst1 := (Below.refl w.heap.size w).alloc (Nat.le_refl _) (.cells #[.string a, .string b, .slice pa l c] 116)
  obtain ⟨k0, k1, _⟩ := hm1.cells
  clear hm1
  by_cases h1 : a = appS
  · have e1 : (a.toList == [97, 112, 112, 108, 105, 99, 97, 116, 105, 111, 110]) = true := str_yes h1
    by_cases h2 : b = jsonS
    · have e2 : (b.toList == [106, 115, 111, 110]) = true := str_yes h2
      have hj : jsonB a b = true := by unfold jsonB; rw [decide_eq_true h1, decide_eq_true h2]; rfl
      have HJ := Lib.hid hj
      clear h1 h2 hj
      go_enter Tryd.func82, Tryd.ntmps82
      go_wp2_with fail
      go_ret
      exact ⟨ret_bool HJ.out.symm, hst1⟩
    · have e2 : (b.toList == [106, 115, 111, 110]) = false := str_no h2
      by_cases h3 : b = pkcsS
      · have e3 : (b.toList == [112, 107, 99, 115, 55, 45, 109, 105, 109, 101]) = true := str_yes h3
        have hj : jsonB a b = true := by unfold jsonB; rw [decide_eq_true h1, decide_eq_true h3]; simp
        have HJ := Lib.hid hj
        clear h1 h2 h3 hj
        go_enter Tryd.func82, Tryd.ntmps82
        go_wp2_with fail
        go_ret
        exact ⟨ret_bool HJ.out.symm, hst1⟩
      · have e3 : (b.toList == [112, 107, 99, 115, 55, 45, 109, 105, 109, 101]) = false := str_no h3
        by_cases h5 : 5 < b.size
        · have h5I : (b.size : Int) > 5 := by omega
          have hj : jsonB a b = Lib.hasSuffix b.data.toList sufS.data.toList := by unfold jsonB; rw [decide_eq_true h1, decide_eq_false h2, decide_eq_false h3, decide_eq_true h5]; simp
          have hsf := Lib.hasSuffix_raw b sufS
          rw [decide_eq_true (show sufS.size ≤ b.size from by show 5 ≤ b.size; omega), Bool.true_and, ← hj, show b.size - sufS.size = b.size - 5 from rfl, show sufS.toList = [43, 106, 115, 111, 110] by rw [ByteArray.toList_eq]; rfl] at hsf
          have h0 : (0 : Int) ≤ (b.size : Int) - 5 := by omega
          have h0' : (b.size : Int) - 5 ≤ (b.size : Int) := by omega
          have hN : ((b.size : Int) - 5).toNat = b.size - 5 := by omega
          have HJ := Lib.hid hj
          clear h1 h2 h3 hj
          go_enter Tryd.func82, Tryd.ntmps82
          go_wp2_with fail
          go_ret
          exact ⟨ret_bool rfl, hst1⟩
        · have h5I : decide ((b.size : Int) > 5) = false := decide_eq_false (by omega)
          have h5J : ¬ (b.size : Int) > 5 := by omega
          have hj : jsonB a b = false := by unfold jsonB; rw [decide_eq_false h2, decide_eq_false h3, decide_eq_false h5]; simp
          have HJ := Lib.hid hj
          clear h1 h2 h3 hj h5
          go_enter Tryd.func82, Tryd.ntmps82
          go_wp2_with fail
          go_ret
          exact ⟨ret_bool HJ.out.symm, hst1⟩
  · have e1 : (a.toList == [97, 112, 112, 108, 105, 99, 97, 116, 105, 111, 110]) = false := str_no h1
    have hj : jsonB a b = false := by unfold jsonB; rw [decide_eq_false h1]; rfl
    have HJ := Lib.hid hj
    clear h1 hj
    go_enter Tryd.func82, Tryd.ntmps82
    go_wp2_with fail
    go_ret
    exact ⟨ret_bool HJ.out.symm, hst1⟩
end Go.Proofs.YteabhblbefglpaaDoor

/- The reference of chapter 17: Accept. -/
namespace Go.Proofs.YteabhblbefglpaaDoor
open Go.RowKit

theorem lower_utf8 : lowerS utf8S = utf8S := by decide +kernel
set_option maxHeartbeats 3200000 in
set_option maxRecDepth 100000 in
theorem ref17_Accept (s : ByteArray) (w : World) : Calls Tryd.prog 49 #[.string s] w fun e w' => e = .returned (.tuple #[.int .i64 ((acceptM s).1 : Int), .int .i64 ((acceptM s).2 : Int)]) ∧ Below w.heap.size w w' := by
  have cP := Lib.hid (fun W => ref17_Parse s W)
  go_enter Tryd.func49, Tryd.ntmps49
  go_wp2_with fail
  refine (cP.out _).mono ?_
  rintro e w2 ⟨hb2, h⟩
  rcases h with ⟨m, hm, pa, c, rfl, hsl⟩ | ⟨k, i, hk, rfl⟩
  · obtain ⟨z1, z2, z3, z4⟩ := parseM_sizes hm
    have HY := Lib.hid (fun h => acc_yes hm h)
    have HN := Lib.hid (fun h => acc_no hm h)
    have hmay : mayM m = (jsonB m.type m.sub && (match paramM m.params charS with | none => true | some v => sameB v utf8S)) := rfl
    have HMAY := Lib.hid hmay
    obtain ⟨mt, ms, mp⟩ := m
    simp only at z1 z2 z3 z4 hmay hsl
    have hm3 := MediaAt.new (w := w2) (n := mt) (v := ms) (pa := pa) (l := mp.length) (c := c)
    have hst := (Below.refl w2.heap.size w2).alloc (Nat.le_refl _) (.cells #[.string mt, .string ms, .slice pa mp.length c] 116)
    have hb3 := Bt hb2 hst
    have hs3 := hsl.below hst
    have cA := Lib.hid (ref17_Param mt ms charS pa c mp _ hs3 (by omega))
    have cJ := Lib.hid (fun W => ref17_JSON mt ms pa mp.length c W (by omega))
    obtain ⟨k0, k1, k2⟩ := hm3.cells
    have hsz : ∀ v, paramM mp charS = some v → v.size ≤ 1000 := by
      intro v hv
      unfold paramM at hv
      cases hf : mp.find? fun x => decide (x.name = charS) with
      | none => rw [hf] at hv; cases hv
      | some x => rw [hf] at hv; cases hv; exact z4 x (List.mem_of_find?_eq_some hf)
    have HSZ := Lib.hid hsz
    clear hm hmay hsl hst hb2 z4 hsz
    generalize jsonB mt ms = jb at *
    go_wp2_with fail
    refine cA.out.mono ?_
    rintro e w4 ⟨hb4, h⟩
    have hm4 := hm3.below hb4
    have hb34 := Bt hb3 hb4
    obtain ⟨l0, l1, l2⟩ := hm4.cells
    clear k0 k1 k2 hm3 hb3 hb4 cA hs3
    rcases h with ⟨hp, rfl⟩ | ⟨v, hp, rfl⟩
    · have hmm : mayM ⟨mt, ms, mp⟩ = jb := by rw [HMAY.out]; simp only [hp]; simp
      go_wp2_with fail
      refine (cJ.out _).mono ?_
      rintro e w5 ⟨rfl, hb5⟩
      have hb35 := Bt hb34 hb5
      cases jb
      · have HX := Lib.hid (HN.out hmm)
        clear hmm hp
        go_wp2_with fail
        go_ret2
        exact ⟨by rw [HX.out]; rfl, hb35⟩
      · have HX := Lib.hid (HY.out hmm)
        clear hmm hp
        go_wp2_with fail
        go_ret2
        exact ⟨by rw [HX.out]; rfl, hb35⟩
    · have hmm : mayM ⟨mt, ms, mp⟩ = (jb && sameB v utf8S) := by rw [HMAY.out]; simp only [hp]
      have hvz := HSZ.out v hp
      have hss : sameB v utf8S = decide (lowerS v = utf8S) := by unfold sameB; rw [lower_utf8]
      have cS := Lib.hid (fun W => ref_Lower v W (by omega))
      rw [hss] at hmm
      generalize lowerS v = lv at *
      clear hp hss
      go_wp2_with fail
      refine (cJ.out _).mono ?_
      rintro e w5 ⟨rfl, hb5⟩
      have hb35 := Bt hb34 hb5
      cases jb
      · have HX := Lib.hid (HN.out (hmm.trans (Bool.false_and _)))
        clear hmm
        go_wp2_with fail
        go_ret2
        exact ⟨by rw [HX.out]; rfl, hb35⟩
      · have HMM := Lib.hid hmm
        clear hmm
        go_wp2_with fail
        refine (cS.out _).mono ?_
        rintro e w7 ⟨rfl, hb7⟩
        have hb37 := Bt hb35 hb7
        by_cases hl : lv = utf8S
        · have HX := Lib.hid (HY.out (HMM.out.trans (by rw [decide_eq_true hl]; rfl)))
          have e1 : (lv.toList == [117, 116, 102, 45, 56]) = true := str_yes hl
          have e2 : (lv.toList != [117, 116, 102, 45, 56]) = false := by simp [bne, e1]
          clear hl
          go_wp2_with fail
          go_ret2
          exact ⟨by rw [HX.out]; rfl, hb37⟩
        · have HX := Lib.hid (HN.out (HMM.out.trans (by rw [decide_eq_false hl]; rfl)))
          have e1 : (lv.toList == [117, 116, 102, 45, 56]) = false := str_no hl
          have e2 : (lv.toList != [117, 116, 102, 45, 56]) = true := by simp [bne, e1]
          clear hl
          go_wp2_with fail
          go_ret2
          exact ⟨by rw [HX.out]; rfl, hb37⟩
  · have hne := parseM_kind hk
    have e1 : ((k : Int) != 0) = true := by simp only [bne_iff_ne, ne_eq]; omega
    have HX := Lib.hid (acc_err hk)
    have hb3 := hb2.alloc hb2.size (.cells #[.string ⟨#[]⟩, .string ⟨#[]⟩, .slice none 0 0] 116)
    clear hk hne
    go_wp2_with fail
    go_ret2
    exact ⟨by rw [HX.out]; rfl, hb3⟩
end Go.Proofs.YteabhblbefglpaaDoor

/- waybillref26.Judge. -/
namespace Go.Proofs.YteabhblbefglpaaDoor
open Go.RowKit

set_option maxHeartbeats 6400000 in
set_option maxRecDepth 100000 in
theorem ref26_Judge (apple : Bool) (id st : Int) (redir tmo : Bool) (ty ca : ByteArray) (pa : Option Addr) (n c : Nat) (w : World) :
    Calls Tryd.prog 16 #[.bool apple, .agg #[.int .u64 id, .int .i64 st, .bool redir, .bool tmo, .string ty, .string ca, .slice pa n c]] w fun e w' => e = .returned (.int .i64 (judgeN apple st redir tmo ty n : Int)) ∧ Below w.heap.size w w' := by
  cases tmo with
  | true =>
    have HJ := Lib.hid (@judge_tmo apple st redir ty n)
    have hst : Below w.heap.size w (w.alloc (.cells #[.int .u64 id, .int .i64 st, .bool redir, .bool true, .string ty, .string ca, .slice pa n c] 25)) := (Below.refl _ _).alloc (Nat.le_refl _) _
    go_enter Tryd.func16, Tryd.ntmps16
    go_wp2_with fail
    go_ret
    exact ⟨by rw [HJ.out]; rfl, hst⟩
  | false =>
    cases redir with
    | true =>
      have HJ := Lib.hid (@judge_redir apple st ty n)
      have hst : Below w.heap.size w (w.alloc (.cells #[.int .u64 id, .int .i64 st, .bool true, .bool false, .string ty, .string ca, .slice pa n c] 25)) := (Below.refl _ _).alloc (Nat.le_refl _) _
      go_enter Tryd.func16, Tryd.ntmps16
      go_wp2_with fail
      go_ret
      exact ⟨by rw [HJ.out]; rfl, hst⟩
    | false =>
      by_cases h3 : 300 ≤ st ∧ st ≤ 399
      · have HJ := Lib.hid (@judge_3xx apple st ty n h3.1 h3.2)
        obtain ⟨h31, h32⟩ := h3
        have hst : Below w.heap.size w (w.alloc (.cells #[.int .u64 id, .int .i64 st, .bool false, .bool false, .string ty, .string ca, .slice pa n c] 25)) := (Below.refl _ _).alloc (Nat.le_refl _) _
        go_enter Tryd.func16, Tryd.ntmps16
        go_wp2_with fail
        go_ret
        exact ⟨by rw [HJ.out]; rfl, hst⟩
      · by_cases h2 : st = 200
        · subst h2
          clear h3
          have hst : Below w.heap.size w (w.alloc (.cells #[.int .u64 id, .int .i64 200, .bool false, .bool false, .string ty, .string ca, .slice pa n c] 25)) := (Below.refl _ _).alloc (Nat.le_refl _) _
          cases apple with
          | false =>
            have hh := heap_alloc_new w (.cells #[.int .u64 id, .int .i64 200, .bool false, .bool false, .string ty, .string ca, .slice pa n c] 25)
            have cA := Lib.hid (fun W => ref17_Accept ty W)
            have hj := fun k h => @judge_acc false ty n (.inl rfl) k h
            have hjz := fun h => @judge_fit false ty n (Or.inr h)
            have hjl := fun h => @judge_long false ty n (Or.inr h)
            obtain ⟨a1, a2, hac⟩ : ∃ a1 a2 : Nat, acceptM ty = (a1, a2) := ⟨_, _, rfl⟩
            rw [hac] at cA hj hjz hjl
            dsimp only at cA hj hjz hjl
            clear hac
            go_enter Tryd.func16, Tryd.ntmps16
            go_wp2_with fail
            refine (cA.out _).mono ?_
            rintro e w2 ⟨rfl, hb2⟩
            have hb12 := Bt hst hb2
            have hh2 := (hb2.block w.heap.size (by simp)).trans hh
            have c6 : w2.cell? ⟨w.heap.size, 6, none⟩ = some (.slice pa n c) := by rw [cell_of_row w2 w.heap.size 6 _ _ _ hh2]; rfl
            clear hh hst hb2 hh2 cA
            by_cases ha : a1 = 0
            · have haI : ((a1 : Int) != 0) = false := by simp [ha]
              by_cases hn : 1048576 < n
              · have HJ := Lib.hid (hjl ha (by simpa using hn))
                have hnI : (n : Int) > 1048576 := by omega
                clear hn
                go_wp2_with fail
                go_ret
                exact ⟨by rw [HJ.out]; rfl, hb12⟩
              · have HJ := Lib.hid (hjz ha (by simpa using hn))
                have hnI : ¬ (n : Int) > 1048576 := by omega
                clear hn
                go_wp2_with fail
                go_ret
                exact ⟨by rw [HJ.out]; rfl, hb12⟩
            · have HJ := Lib.hid (hj a1 rfl ha)
              have haI : ((a1 : Int) != 0) = true := by simp; omega
              clear hj hjz hjl ha
              go_wp2_with fail
              go_ret
              exact ⟨by rw [HJ.out]; rfl, hb12⟩
          | true =>
            by_cases hz : 0 < ty.size
            · have hzI : (ty.size : Int) > 0 := by omega
              have hh := heap_alloc_new w (.cells #[.int .u64 id, .int .i64 200, .bool false, .bool false, .string ty, .string ca, .slice pa n c] 25)
              have cA := Lib.hid (fun W => ref17_Accept ty W)
              have hj := fun k h => @judge_acc true ty n (.inr hz) k h
              have hjz := fun h => @judge_fit true ty n (Or.inr h)
              have hjl := fun h => @judge_long true ty n (Or.inr h)
              obtain ⟨a1, a2, hac⟩ : ∃ a1 a2 : Nat, acceptM ty = (a1, a2) := ⟨_, _, rfl⟩
              rw [hac] at cA hj hjz hjl
              dsimp only at cA hj hjz hjl
              clear hac
              go_enter Tryd.func16, Tryd.ntmps16
              go_wp2_with fail
              refine (cA.out _).mono ?_
              rintro e w2 ⟨rfl, hb2⟩
              have hb12 := Bt hst hb2
              have hh2 := (hb2.block w.heap.size (by simp)).trans hh
              have c6 : w2.cell? ⟨w.heap.size, 6, none⟩ = some (.slice pa n c) := by rw [cell_of_row w2 w.heap.size 6 _ _ _ hh2]; rfl
              clear hh hst hb2 hh2 cA
              by_cases ha : a1 = 0
              · have haI : ((a1 : Int) != 0) = false := by simp [ha]
                by_cases hn : 131072 < n
                · have HJ := Lib.hid (hjl ha (by simpa using hn))
                  have hnI : (n : Int) > 131072 := by omega
                  clear hn
                  go_wp2_with fail
                  go_ret
                  exact ⟨by rw [HJ.out]; rfl, hb12⟩
                · have HJ := Lib.hid (hjz ha (by simpa using hn))
                  have hnI : ¬ (n : Int) > 131072 := by omega
                  have hnJ : ¬ (n : Int) > 1048576 := by omega
                  clear hn
                  go_wp2_with fail
                  go_ret
                  exact ⟨by rw [HJ.out]; rfl, hb12⟩
              · have HJ := Lib.hid (hj a1 rfl ha)
                have haI : ((a1 : Int) != 0) = true := by simp; omega
                clear hj hjz hjl ha
                go_wp2_with fail
                go_ret
                exact ⟨by rw [HJ.out]; rfl, hb12⟩
            · have hzI : ¬ (ty.size : Int) > 0 := by omega
              have hnz : ¬ (true = false ∨ 0 < ty.size) := fun h => by rcases h with h | h; cases h; exact hz h
              have hjz := @judge_fit true ty n (Or.inl hnz)
              have hjl := @judge_long true ty n (Or.inl hnz)
              clear hnz hz
              by_cases hn : 131072 < n
              · have HJ := Lib.hid (hjl (by simpa using hn))
                have hnI : (n : Int) > 131072 := by omega
                clear hn hjz hjl
                go_enter Tryd.func16, Tryd.ntmps16
                go_wp2_with fail
                go_ret
                exact ⟨by rw [HJ.out]; rfl, hst⟩
              · have HJ := Lib.hid (hjz (by simpa using hn))
                have hnI : ¬ (n : Int) > 131072 := by omega
                have hnJ : ¬ (n : Int) > 1048576 := by omega
                clear hn hjz hjl
                go_enter Tryd.func16, Tryd.ntmps16
                go_wp2_with fail
                go_ret
                exact ⟨by rw [HJ.out]; rfl, hst⟩
        · have HJ := Lib.hid (@judge_status apple st ty n h3 h2)
          have h2I : (st != 200) = true := by simpa using h2
          have hst : Below w.heap.size w (w.alloc (.cells #[.int .u64 id, .int .i64 st, .bool false, .bool false, .string ty, .string ca, .slice pa n c] 25)) := (Below.refl _ _).alloc (Nat.le_refl _) _
          by_cases h4 : 300 ≤ st
          · have h5 : ¬ st ≤ 399 := by omega
            clear h3 h2
            go_enter Tryd.func16, Tryd.ntmps16
            go_wp2_with fail
            go_ret
            exact ⟨by rw [HJ.out]; rfl, hst⟩
          · clear h3 h2
            go_enter Tryd.func16, Tryd.ntmps16
            go_wp2_with fail
            go_ret
            exact ⟨by rw [HJ.out]; rfl, hst⟩
end Go.Proofs.YteabhblbefglpaaDoor
