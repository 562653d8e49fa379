/- The reference of chapter 17: param. -/
import Derived.Test.YtndppcklpcfikaaGreatDoorMediaCasesM16
import Derived.Test.YtndppcklpcfikaaGreatDoorMediaCasesM10
import Derived.Deep.RegionLaw

namespace Go.Proofs.YtndppcklpcfikaaGreatDoor
open Go.RowKit

theorem step_store_item {w : World} {ops : Array Oper} {o : Oper} {a : Act} {K : Act → World → Prop} {Q : Exit → Act → World → Prop} {E : Prop} (hgd : o.guard = none) (x y : Operand) (ho : o.op = .store 37 x y)
    (g : Nat) (n v : ByteArray) (b : Bool) (hx : a.eval x = .pointer (some ⟨g, 0, none⟩)) (hy : a.eval y = .agg #[.string n, .string v, .bool b]) (n0 v0 : ByteArray) (b0 : Bool) (hg : ItemAt w g n0 v0 b0)
    (h : K (a.put o.dst undef) (w.setRow g #[.string n, .string v, .bool b])) :
    if Region.wanted o (yielded ops a.tmps) = true then Oper.wp Tryz.prog o a w K Q else E := by
  have hw : Region.wanted o (yielded ops a.tmps) = true := by simp [Region.wanted, hgd]
  rw [if_pos hw]
  exact wp_store_row _ x y ho g _ hx hy _ _ hg (by rw [size_item]; rfl) rfl (all_item n v b) h
/-- What is behind a text between marks is an end of what came. -/
theorem quotedG_end_of : ∀ (n : Nat) (l out v r : List UInt8), l.length ≤ n → quotedG l out = some (v, r) → ∃ k, r = l.drop k ∧ 1 ≤ k ∧ k ≤ l.length := by
  intro n
  induction n using Nat.strongRecOn with
  | ind n ih =>
    intro l out v r hn h
    match l, h with
    | [], h => cases h
    | [c], h =>
      unfold quotedG at h
      split at h
      · injection h with h; injection h with h1 h2; subst h2; exact ⟨1, rfl, by simp, by simp⟩
      · cases h
    | c :: d :: l, h =>
      simp only [List.length_cons] at hn
      rw [quotedG] at h
      split at h
      · injection h with h; injection h with h1 h2; subst h2; exact ⟨1, rfl, by simp, by simp⟩
      · split at h
        · obtain ⟨k, h1, h2, h3⟩ := ih (n - 2) (by omega) l _ _ _ (by omega) h
          exact ⟨k + 2, by rw [h1]; rfl, by omega, by simp; omega⟩
        · obtain ⟨k, h1, h2, h3⟩ := ih (n - 1) (by omega) (d :: l) _ _ _ (by simp; omega) h
          exact ⟨k + 1, by rw [h1]; rfl, by omega, by simp at h3 ⊢; omega⟩
theorem tokR_rest (s : ByteArray) (a : Nat) : tokR (rest s a) = rest s (a + (tokW (rest s a)).length) ∧ (tokW (rest s a)).length ≤ s.size - a ∧ ofL (tokW (rest s a)) = s.extract a (a + (tokW (rest s a)).length) := by
  obtain ⟨_, s2, _, s4, s5⟩ := span_at inTok (rest s a)
  rw [rest_len] at s2
  have e : (tokW (rest s a)).length = ((rest s a).takeWhile inTok).length := rfl
  refine ⟨?_, by omega, ?_⟩
  · unfold tokR; rw [s5, rest_drop, e]
  · rw [rest_extract, e]; show ofL (List.takeWhile inTok (rest s a)) = _; rw [← s4]
def Par17 (s : ByteArray) (a : Nat) (w : World) (e : Ending) (w' : World) : Prop := Below w.heap.size w w' ∧ ((∃ (x : It) (b : Nat), a < b ∧ b ≤ s.size ∧ paramG (rest s a) = some (x, rest s b) ∧ e = .returned (.tuple #[.agg #[.string x.name, .string x.value, .bool x.has], .int .i64 (b : Int)])) ∨ (paramG (rest s a) = none ∧ e = .returned (.tuple #[.agg #[.string ⟨#[]⟩, .string ⟨#[]⟩, .bool false], .int .i64 (-1)])))
theorem par_no59 {s : ByteArray} {a : Nat} (h : a < s.size) (h2 : s[a] ≠ 59) : paramG (rest s a) = none := by
  rw [rest_cons h, byteAt_ix h]
  unfold paramG
  split
  · rename_i e
    injection e with e1 e2
    exact absurd e1 h2
  · rfl
theorem par_59 {s : ByteArray} {a : Nat} (h : a < s.size) (h2 : s[a] = 59) : paramG (rest s a) = if tokOk (tokW (rest s (blankN s (a + 1)))) = true then
      match tokR (rest s (blankN s (a + 1))) with
      | 61 :: l3 => (valueG l3).map fun x => (⟨lowerS (ofL (tokW (rest s (blankN s (a + 1))))), ofL x.1, true⟩, blankL x.2)
      | _ => none
    else none := by
  rw [rest_cons h, byteAt_ix h, h2, blankN_rest]
  rfl
theorem par_no61 {s : ByteArray} {c : Nat} {α : Type} (f : List UInt8 → Option α) (h : c < s.size) (h2 : s[c] ≠ 61) : (match rest s c with | 61 :: l3 => f l3 | _ => none) = none := by
  rw [rest_cons h, byteAt_ix h]
  split
  · rename_i e
    injection e with e1 e2
    exact absurd e1 h2
  · rfl
theorem par_61 {s : ByteArray} {c : Nat} {α : Type} (f : List UInt8 → Option α) (h : c < s.size) (h2 : s[c] = 61) : (match rest s c with | 61 :: l3 => f l3 | _ => none) = f (rest s (c + 1)) := by
  rw [rest_cons h, byteAt_ix h, h2]; rfl
theorem par_end {s : ByteArray} {c : Nat} {α : Type} (f : List UInt8 → Option α) (h : s.size ≤ c) : (match rest s c with | 61 :: l3 => f l3 | _ => none) = none := by
  rw [rest_nil h]
theorem val_mark {s : ByteArray} {d : Nat} (h : d < s.size) (h2 : s[d] = 34) : valueG (rest s d) = quotedG (rest s (d + 1)) [] := by
  rw [rest_cons h, byteAt_ix h, h2, valueG_mark]
theorem val_tok {s : ByteArray} {d : Nat} (h : ∀ (h : d < s.size), s[d] ≠ 34) : valueG (rest s d) = if tokOk (tokW (rest s d)) = true then some (tokW (rest s d), tokR (rest s d)) else none := by
  refine valueG_tok fun l' e => ?_
  by_cases hd : d < s.size
  · rw [rest_cons hd, byteAt_ix hd] at e
    injection e with e1 e2
    exact h hd e1
  · rw [rest_nil (by omega)] at e
    cases e
set_option maxHeartbeats 6400000 in
set_option maxRecDepth 100000 in
theorem ref17_param (s : ByteArray) (a : Nat) (w : World) (hs : s.size ≤ 1000) (ha : a ≤ s.size) : Calls Tryz.prog 39 #[.string s, .int .i64 (a : Int)] w (Par17 s a w) := by
  have hz1 : ItemAt (w.alloc (.cells #[.string ⟨#[]⟩, .string ⟨#[]⟩, .bool false] 37)) w.heap.size ⟨#[]⟩ ⟨#[]⟩ false := ItemAt.new
  have hb1 : Below w.heap.size w (w.alloc (.cells #[.string ⟨#[]⟩, .string ⟨#[]⟩, .bool false] 37)) := (Below.refl _ _).alloc (Nat.le_refl _) _
  have hs1 : (w.alloc (.cells #[.string ⟨#[]⟩, .string ⟨#[]⟩, .bool false] 37)).heap.size = w.heap.size + 1 := by simp
  by_cases hlt : a < s.size
  case neg =>
    obtain rfl : a = s.size := by omega
    have HN := Lib.hid (show paramG (rest s s.size) = none by rw [rest_nil (Nat.le_refl _)]; rfl)
    go_enter Tryz.func39, Tryz.ntmps39
    go_wp2_with (refine wpList_store_item (o := ⟨none, _, _, _, _, _⟩) rfl _ _ rfl w.heap.size ⟨#[]⟩ ⟨#[]⟩ false rfl rfl ⟨#[]⟩ ⟨#[]⟩ false hz1 ?_; intro hst)
    (try simp only [Exit.inBlock, Exit.then])
    refine bodyPost_ret (results_item rfl rfl hst) rfl ?_
    exact ⟨below_setRowI hb1 (Nat.le_refl _) _, .inr ⟨HN.out, rfl⟩⟩
  have d0 : ¬ (s.size : Int) ≤ (a : Int) := by omega
  by_cases h59 : s[a] = 59
  case neg =>
    have d1 : ((s[a].toNat : Int) != 59) = true := u8_neN (n := 59) (by decide) h59
    have HN := Lib.hid (par_no59 hlt h59)
    clear h59
    go_enter Tryz.func39, Tryz.ntmps39
    go_wp2_with (refine wpList_store_item (o := ⟨none, _, _, _, _, _⟩) rfl _ _ rfl w.heap.size ⟨#[]⟩ ⟨#[]⟩ false rfl rfl ⟨#[]⟩ ⟨#[]⟩ false hz1 ?_; intro hst)
    (try simp only [Exit.inBlock, Exit.then])
    refine bodyPost_ret (results_item rfl rfl hst) rfl ?_
    exact ⟨below_setRowI hb1 (Nat.le_refl _) _, .inr ⟨HN.out, rfl⟩⟩
  have d1 : ((s[a].toNat : Int) != 59) = false := u8_eqN (n := 59) (by decide) h59
  have hp1 := par_59 hlt h59
  have hbl := blankN_le s (a + 1) (by omega)
  have cB : ∀ W, Calls Tryz.prog 36 #[.string s, .int .i64 ((a : Int) + 1)] W fun e w' => e = .returned (.int .i64 (blankN s (a + 1) : Int)) ∧ W = w' := fun W => ref17_blank s (a + 1) W (by omega) (by omega)
  have hP1 := Lib.hid hp1
  clear hp1
  generalize hbv : blankN s (a + 1) = b at *
  clear hbv
  have cT := Lib.hid (fun W => ref17_token s b W (by omega) hbl.2)
  have CB := Lib.hid cB
  clear cB h59
  by_cases hok : tokOk (tokW (rest s b)) = true
  case neg =>
    have ht : tokAt s b = -1 := if_neg hok
    have hn := hP1.out
    rw [if_neg hok] at hn
    have HN := Lib.hid hn
    rw [ht] at cT
    clear hn hok ht hP1
    go_enter Tryz.func39, Tryz.ntmps39
    go_wp2_with fail
    refine (CB.out _).mono ?_
    rintro e w2 ⟨rfl, rfl⟩
    go_wp2_with fail
    refine (cT.out _).mono ?_
    rintro e w2 ⟨rfl, rfl⟩
    go_wp2_with (refine wpList_store_item (o := ⟨none, _, _, _, _, _⟩) rfl _ _ rfl w.heap.size ⟨#[]⟩ ⟨#[]⟩ false rfl rfl ⟨#[]⟩ ⟨#[]⟩ false hz1 ?_; intro hst)
    (try simp only [Exit.inBlock, Exit.then])
    refine bodyPost_ret (results_item rfl rfl hst) rfl ?_
    exact ⟨below_setRowI hb1 (Nat.le_refl _) _, .inr ⟨HN.out, rfl⟩⟩
  have ht : tokAt s b = ((b + (tokW (rest s b)).length : Nat) : Int) := if_pos hok
  obtain ⟨q1, q2, q3⟩ := tokR_rest s b
  have hp2 := hP1.out
  rw [if_pos hok, q1, q3] at hp2
  have hcl : b + (tokW (rest s b)).length ≤ s.size := by omega
  have hcb : b ≤ b + (tokW (rest s b)).length := by omega
  rw [ht] at cT
  have hP2 := Lib.hid hp2
  clear hp2 hP1 ht hok q1 q2 q3
  generalize b + (tokW (rest s b)).length = c at *
  by_cases hc : c < s.size
  case neg =>
    obtain rfl : c = s.size := by omega
    have hn := hP2.out
    rw [par_end _ (Nat.le_refl _)] at hn
    have HN := Lib.hid hn
    have dg : ¬ (s.size : Int) < 0 := by omega
    clear hn hP2
    go_enter Tryz.func39, Tryz.ntmps39
    go_wp2_with fail
    refine (CB.out _).mono ?_
    rintro e w2 ⟨rfl, rfl⟩
    go_wp2_with fail
    refine (cT.out _).mono ?_
    rintro e w2 ⟨rfl, rfl⟩
    go_wp2_with (refine wpList_store_item (o := ⟨none, _, _, _, _, _⟩) rfl _ _ rfl w.heap.size ⟨#[]⟩ ⟨#[]⟩ false rfl rfl ⟨#[]⟩ ⟨#[]⟩ false hz1 ?_; intro hst)
    (try simp only [Exit.inBlock, Exit.then])
    refine bodyPost_ret (results_item rfl rfl hst) rfl ?_
    exact ⟨below_setRowI hb1 (Nat.le_refl _) _, .inr ⟨HN.out, rfl⟩⟩
  have e1 : ¬ (c : Int) < 0 := by omega
  have e2 : ((c : Int) == (s.size : Int)) = false := by rw [beq_eq_false_iff_ne]; omega
  have hcI : (c : Int) < (s.size : Int) := by omega
  by_cases h61 : s[c] = 61
  case neg =>
    have e3 : ((s[c].toNat : Int) != 61) = true := u8_neN (n := 61) (by decide) h61
    have hn := hP2.out
    rw [par_no61 _ hc h61] at hn
    have HN := Lib.hid hn
    clear hn hP2 h61
    go_enter Tryz.func39, Tryz.ntmps39
    go_wp2_with fail
    refine (CB.out _).mono ?_
    rintro e w2 ⟨rfl, rfl⟩
    go_wp2_with fail
    refine (cT.out _).mono ?_
    rintro e w2 ⟨rfl, rfl⟩
    go_wp2_with (refine wpList_store_item (o := ⟨none, _, _, _, _, _⟩) rfl _ _ rfl w.heap.size ⟨#[]⟩ ⟨#[]⟩ false rfl rfl ⟨#[]⟩ ⟨#[]⟩ false hz1 ?_; intro hst)
    (try simp only [Exit.inBlock, Exit.then])
    refine bodyPost_ret (results_item rfl rfl hst) rfl ?_
    exact ⟨below_setRowI hb1 (Nat.le_refl _) _, .inr ⟨HN.out, rfl⟩⟩
  have e3 : ((s[c].toNat : Int) != 61) = false := u8_eqN (n := 61) (by decide) h61
  have hn := hP2.out
  rw [par_61 _ hc h61] at hn
  have HP := Lib.hid hn
  clear hn hP2 h61
  have cL := Lib.hid (fun W => ref_Lower (s.extract b c) W (by rw [ByteArray.size_extract]; omega))
  have hbcI : (b : Int) ≤ (c : Int) := by omega
  have hab : a < b := by omega
  generalize hv : valueG (rest s (c + 1)) = val at *
  have HV := Lib.hid hv
  clear hv
  by_cases hm : ∃ h : c + 1 < s.size, s[c + 1] = 34
  · obtain ⟨hd, h34⟩ := hm
    have m1 : ((s[c + 1].toNat : Int) == 34) = true := (u8_is (n := 34) (by decide)).trans (decide_eq_true h34)
    have m2 : (c : Int) + 1 < (s.size : Int) := by omega
    have hval := HV.out
    rw [val_mark hd h34] at hval
    have cQ : ∀ W, Calls Tryz.prog 54 #[.string s, .int .i64 ((c : Int) + 1)] W fun e w' => e = .returned (.tuple #[.string (quotedN s (c + 1)).1, .int .i64 (quotedN s (c + 1)).2]) ∧ W = w' := fun W => ref17_quoted s (c + 1) W (by omega) hd
    clear h34 HV
    cases val with
    | none =>
      rw [quotedN_none hval] at cQ
      dsimp only at cQ
      have CQ := Lib.hid cQ
      have HF := Lib.hid (show paramG (rest s a) = none by rw [HP.out]; rfl)
      clear cQ hval HP
      go_enter Tryz.func39, Tryz.ntmps39
      go_wp2_with fail
      refine (CB.out _).mono ?_
      rintro e w2 ⟨rfl, rfl⟩
      go_wp2_with fail
      refine (cT.out _).mono ?_
      rintro e w2 ⟨rfl, rfl⟩
      go_wp2_with fail
      refine (cL.out _).mono ?_
      rintro e w2 ⟨rfl, hk⟩
      have hz2 := hz1.below hk
      have hb2 := hb1.trans (hk.mono (by omega))
      have hs2 : w.heap.size + 1 ≤ w2.heap.size := by have := hk.size; omega
      clear hk hz1 hb1 hs1 cT CB cL
      generalize lowerS (s.extract b c) = low at *
      have hst : Below w2.heap.size w2 (w2.alloc (.cells #[.string low, .string ⟨#[]⟩, .bool true] 37)) := (Below.refl _ _).alloc (Nat.le_refl _) _
      have hz3 := hz2.below hst
      have hb3 := hb2.trans (hst.mono (by omega))
      have hx3 : ItemAt (w2.alloc (.cells #[.string low, .string ⟨#[]⟩, .bool true] 37)) w2.heap.size low ⟨#[]⟩ true := ItemAt.new
      have hs3 : w2.heap.size + 1 ≤ (w2.alloc (.cells #[.string low, .string ⟨#[]⟩, .bool true] 37)).heap.size := by simp
      clear hst
      go_wp2_with fail
      refine (CQ.out _).mono ?_
      rintro e w9 ⟨rfl, rfl⟩
      have g1 := hx3.frozen 1
      obtain ⟨y0, y1, y2⟩ := hx3.cells
      have hst : Below w2.heap.size w2 (w2.alloc (.cells #[.string low, .string ⟨#[]⟩, .bool true] 37)) := (Below.refl _ _).alloc (Nat.le_refl _) _
      have hx5 : ItemAt (w2.alloc (.cells #[.string low, .string ⟨#[]⟩, .bool true] 37)) w2.heap.size low ⟨#[]⟩ true := ItemAt.new
      have hz5 := hz2.below hst
      have hb5 := hb2.trans (hst.mono (by omega))
      clear hst hz2 hb2
      go_wp2_with (refine wpList_store_item (o := ⟨none, _, _, _, _, _⟩) rfl _ _ rfl w.heap.size ⟨#[]⟩ ⟨#[]⟩ false rfl rfl ⟨#[]⟩ ⟨#[]⟩ false hz5 ?_; intro hst)
      (try simp only [Exit.inBlock, Exit.then])
      refine bodyPost_ret (results_item rfl rfl hst) rfl ?_
      exact ⟨below_setRowI hb5 (Nat.le_refl _) _, .inr ⟨HF.out, rfl⟩⟩
    | some x =>
      obtain ⟨v, r⟩ := x
      obtain ⟨k, hk1, hk2, hk3⟩ := quotedG_end_of _ _ _ _ _ (Nat.le_refl _) hval
      rw [rest_len] at hk3
      have hr : r = rest s (c + 2 + k) := by rw [hk1, rest_drop]
      have hq := quotedN_some hval
      rw [hr, rest_len, show s.size - (s.size - (c + 2 + k)) = c + 2 + k by omega] at hq
      rw [hq] at cQ
      dsimp only at cQ
      have CQ := Lib.hid cQ
      have hf := HP.out
      rw [hr] at hf
      have htl : c + 2 + k ≤ s.size := by omega
      have hta : a < c + 2 + k := by omega
      have HF0 := Lib.hid hf
      clear cQ hval HP hq hr hk1 hk2 hk3 hf
      generalize c + 2 + k = t at *
      go_enter Tryz.func39, Tryz.ntmps39
      go_wp2_with fail
      refine (CB.out _).mono ?_
      rintro e w2 ⟨rfl, rfl⟩
      go_wp2_with fail
      refine (cT.out _).mono ?_
      rintro e w2 ⟨rfl, rfl⟩
      go_wp2_with fail
      refine (cL.out _).mono ?_
      rintro e w2 ⟨rfl, hk⟩
      have hz2 := hz1.below hk
      have hb2 := hb1.trans (hk.mono (by omega))
      have hs2 : w.heap.size + 1 ≤ w2.heap.size := by have := hk.size; omega
      clear hk hz1 hb1 hs1 cT CB cL
      generalize lowerS (s.extract b c) = low at *
      have hst : Below w2.heap.size w2 (w2.alloc (.cells #[.string low, .string ⟨#[]⟩, .bool true] 37)) := (Below.refl _ _).alloc (Nat.le_refl _) _
      have hz3 := hz2.below hst
      have hb3 := hb2.trans (hst.mono (by omega))
      have hx3 : ItemAt (w2.alloc (.cells #[.string low, .string ⟨#[]⟩, .bool true] 37)) w2.heap.size low ⟨#[]⟩ true := ItemAt.new
      have hs3 : w2.heap.size + 1 ≤ (w2.alloc (.cells #[.string low, .string ⟨#[]⟩, .bool true] 37)).heap.size := by simp
      clear hst
      have HF := HF0
      clear HF0
      go_wp2_with fail
      refine (CQ.out _).mono ?_
      rintro e w9 ⟨rfl, rfl⟩
      have g1 := hx3.frozen 1
      obtain ⟨y0, y1, y2⟩ := hx3.cells
      have hst : Below w2.heap.size w2 (w2.alloc (.cells #[.string low, .string (ofL v), .bool true] 37)) := (Below.refl _ _).alloc (Nat.le_refl _) _
      have hx5 : ItemAt (w2.alloc (.cells #[.string low, .string (ofL v), .bool true] 37)) w2.heap.size low (ofL v) true := ItemAt.new
      have hz5 := hz2.below hst
      have hb5 := hb2.trans (hst.mono (by omega))
      clear hst hz2 hb2
      have cE := Lib.hid (fun W => ref17_blank s t W (by omega) htl)
      have hld : (loadVar 37 ⟨w2.heap.size, 0, none⟩).run Tryz.prog (w2.alloc (.cells #[.string low, .string (ofL v), .bool true] 37)).drew = .ok (.agg #[.string low, .string (ofL v), .bool true]) (w2.alloc (.cells #[.string low, .string (ofL v), .bool true] 37)).drew := ItemAt.load (show ItemAt (w2.alloc (.cells #[.string low, .string (ofL v), .bool true] 37)).drew w2.heap.size low (ofL v) true from hx5)
      have hst := ((hz5.setName low).setValue (ofL v)).setHas true
      have hb6 := ((hb5.setCell (show w.heap.size ≤ (⟨w.heap.size, 0, none⟩ : Addr).block from Nat.le_refl _) (.string low)).setCell (show w.heap.size ≤ (⟨w.heap.size, 1, none⟩ : Addr).block from Nat.le_refl _) (.string (ofL v))).setCell (show w.heap.size ≤ (⟨w.heap.size, 2, none⟩ : Addr).block from Nat.le_refl _) (.bool true) |>.drew
      obtain ⟨z0, z1, z2⟩ := hz5.cells
      have f0 := hz5.frozen 0
      have f1 := hz5.frozen 1
      have f2 := hz5.frozen 2
      have HST := Lib.hid hst
      have HB6 := Lib.hid hb6
      clear hst hb6
      have hge : ¬ ((t : Nat) : Int) < 0 := by omega
      have HN := Lib.hid (show paramG (rest s a) = some ((⟨low, (ofL v), true⟩ : It), rest s (blankN s t)) from HF.out.trans (congrArg (fun l => some ((⟨low, (ofL v), true⟩ : It), l)) (blankN_rest s t).symm))
      have hbt := Lib.hid (blankN_le s t htl)
      have HTA := Lib.hid hta
      clear HF hta hz5 hb5 hx5 hz3 hb3 hx3
      go_upto_region 16 with (fail)
      go_region_law (go_simp; go_at_call 36; refine (cE.out _).mono ?_; rintro e w9 ⟨rfl, rfl⟩; dsimp only)
      all_goals
        go_wp2_with fail
        (try simp only [Exit.inBlock, Exit.then])
        refine bodyPost_ret (results_item rfl rfl (ItemAt.drewN HST.out 1)) rfl ?_
        exact ⟨HB6.out, .inl ⟨(⟨low, (ofL v), true⟩ : It), blankN s t, by have := hbt.out.1; have := HTA.out; omega, hbt.out.2, HN.out, rfl⟩⟩
  · have hv := val_tok (s := s) (d := c + 1) (fun h e => hm ⟨h, e⟩)
    have hcT2 : ∀ W, Calls Tryz.prog 37 #[.string s, .int .i64 ((c : Int) + 1)] W fun e w' => e = .returned (.int .i64 (tokAt s (c + 1))) ∧ W = w' := fun W => ref17_token s (c + 1) W (by omega) (by omega)
    rw [HV.out] at hv
    by_cases hok : tokOk (tokW (rest s (c + 1))) = true
    · rw [if_pos hok] at hv
      subst hv
      have ht : tokAt s (c + 1) = ((c + 1 + (tokW (rest s (c + 1))).length : Nat) : Int) := if_pos hok
      obtain ⟨q1, q2, q3⟩ := tokR_rest s (c + 1)
      have hf := HP.out
      rw [ht] at hcT2
      have htl : c + 1 + (tokW (rest s (c + 1))).length ≤ s.size := by omega
      have hct : c + 1 ≤ c + 1 + (tokW (rest s (c + 1))).length := by omega
      rw [Option.map_some, q1, q3] at hf
      have HF0 := Lib.hid hf
      have CT2 := Lib.hid hcT2
      have m4 := Lib.hid hm
      clear hf hcT2 ht q1 q2 q3 hok HV HP hm
      generalize c + 1 + (tokW (rest s (c + 1))).length = t at *
      have hta : a < t := by omega
      have htI : (c : Int) + 1 ≤ (t : Int) := by omega
      have hge : ¬ ((t : Nat) : Int) < 0 := by omega
      by_cases hd : c + 1 < s.size
      · have m2 : (c : Int) + 1 < (s.size : Int) := by omega
        have m1 : ((s[c + 1].toNat : Int) == 34) = false := (u8_is (n := 34) (by decide)).trans (decide_eq_false (fun e => m4.out ⟨hd, e⟩))
        go_enter Tryz.func39, Tryz.ntmps39
        go_wp2_with fail
        refine (CB.out _).mono ?_
        rintro e w2 ⟨rfl, rfl⟩
        go_wp2_with fail
        refine (cT.out _).mono ?_
        rintro e w2 ⟨rfl, rfl⟩
        go_wp2_with fail
        refine (cL.out _).mono ?_
        rintro e w2 ⟨rfl, hk⟩
        have hz2 := hz1.below hk
        have hb2 := hb1.trans (hk.mono (by omega))
        have hs2 : w.heap.size + 1 ≤ w2.heap.size := by have := hk.size; omega
        clear hk hz1 hb1 hs1 cT CB cL
        generalize lowerS (s.extract b c) = low at *
        have hst : Below w2.heap.size w2 (w2.alloc (.cells #[.string low, .string ⟨#[]⟩, .bool true] 37)) := (Below.refl _ _).alloc (Nat.le_refl _) _
        have hz3 := hz2.below hst
        have hb3 := hb2.trans (hst.mono (by omega))
        have hx3 : ItemAt (w2.alloc (.cells #[.string low, .string ⟨#[]⟩, .bool true] 37)) w2.heap.size low ⟨#[]⟩ true := ItemAt.new
        have hs3 : w2.heap.size + 1 ≤ (w2.alloc (.cells #[.string low, .string ⟨#[]⟩, .bool true] 37)).heap.size := by simp
        clear hst
        have HF := HF0
        clear HF0
        go_wp2_with fail
        refine (CT2.out _).mono ?_
        rintro e w9 ⟨rfl, rfl⟩
        have g1 := hx3.frozen 1
        obtain ⟨y0, y1, y2⟩ := hx3.cells
        have hst : Below w2.heap.size w2 (w2.alloc (.cells #[.string low, .string (s.extract (c + 1) t), .bool true] 37)) := (Below.refl _ _).alloc (Nat.le_refl _) _
        have hx5 : ItemAt (w2.alloc (.cells #[.string low, .string (s.extract (c + 1) t), .bool true] 37)) w2.heap.size low (s.extract (c + 1) t) true := ItemAt.new
        have hz5 := hz2.below hst
        have hb5 := hb2.trans (hst.mono (by omega))
        clear hst hz2 hb2
        have cE := Lib.hid (fun W => ref17_blank s t W (by omega) htl)
        have hld : (loadVar 37 ⟨w2.heap.size, 0, none⟩).run Tryz.prog (w2.alloc (.cells #[.string low, .string (s.extract (c + 1) t), .bool true] 37)).drew = .ok (.agg #[.string low, .string (s.extract (c + 1) t), .bool true]) (w2.alloc (.cells #[.string low, .string (s.extract (c + 1) t), .bool true] 37)).drew := ItemAt.load (show ItemAt (w2.alloc (.cells #[.string low, .string (s.extract (c + 1) t), .bool true] 37)).drew w2.heap.size low (s.extract (c + 1) t) true from hx5)
        have hst := ((hz5.setName low).setValue (s.extract (c + 1) t)).setHas true
        have hb6 := ((hb5.setCell (show w.heap.size ≤ (⟨w.heap.size, 0, none⟩ : Addr).block from Nat.le_refl _) (.string low)).setCell (show w.heap.size ≤ (⟨w.heap.size, 1, none⟩ : Addr).block from Nat.le_refl _) (.string (s.extract (c + 1) t))).setCell (show w.heap.size ≤ (⟨w.heap.size, 2, none⟩ : Addr).block from Nat.le_refl _) (.bool true) |>.drew
        obtain ⟨z0, z1, z2⟩ := hz5.cells
        have f0 := hz5.frozen 0
        have f1 := hz5.frozen 1
        have f2 := hz5.frozen 2
        have HST := Lib.hid hst
        have HB6 := Lib.hid hb6
        clear hst hb6
        have hge : ¬ ((t : Nat) : Int) < 0 := by omega
        have HN := Lib.hid (show paramG (rest s a) = some ((⟨low, (s.extract (c + 1) t), true⟩ : It), rest s (blankN s t)) from HF.out.trans (congrArg (fun l => some ((⟨low, (s.extract (c + 1) t), true⟩ : It), l)) (blankN_rest s t).symm))
        have hbt := Lib.hid (blankN_le s t htl)
        have HTA := Lib.hid hta
        clear HF hta hz5 hb5 hx5 hz3 hb3 hx3
        go_upto_region 16 with (fail)
        go_region_law (go_simp; go_at_call 36; refine (cE.out _).mono ?_; rintro e w9 ⟨rfl, rfl⟩; dsimp only)
        all_goals
          go_wp2_with fail
          (try simp only [Exit.inBlock, Exit.then])
          refine bodyPost_ret (results_item rfl rfl (ItemAt.drewN HST.out 1)) rfl ?_
          exact ⟨HB6.out, .inl ⟨(⟨low, (s.extract (c + 1) t), true⟩ : It), blankN s t, by have := hbt.out.1; have := HTA.out; omega, hbt.out.2, HN.out, rfl⟩⟩
      · have m2 : ¬ (c : Int) + 1 < (s.size : Int) := by omega
        go_enter Tryz.func39, Tryz.ntmps39
        go_wp2_with fail
        refine (CB.out _).mono ?_
        rintro e w2 ⟨rfl, rfl⟩
        go_wp2_with fail
        refine (cT.out _).mono ?_
        rintro e w2 ⟨rfl, rfl⟩
        go_wp2_with fail
        refine (cL.out _).mono ?_
        rintro e w2 ⟨rfl, hk⟩
        have hz2 := hz1.below hk
        have hb2 := hb1.trans (hk.mono (by omega))
        have hs2 : w.heap.size + 1 ≤ w2.heap.size := by have := hk.size; omega
        clear hk hz1 hb1 hs1 cT CB cL
        generalize lowerS (s.extract b c) = low at *
        have hst : Below w2.heap.size w2 (w2.alloc (.cells #[.string low, .string ⟨#[]⟩, .bool true] 37)) := (Below.refl _ _).alloc (Nat.le_refl _) _
        have hz3 := hz2.below hst
        have hb3 := hb2.trans (hst.mono (by omega))
        have hx3 : ItemAt (w2.alloc (.cells #[.string low, .string ⟨#[]⟩, .bool true] 37)) w2.heap.size low ⟨#[]⟩ true := ItemAt.new
        have hs3 : w2.heap.size + 1 ≤ (w2.alloc (.cells #[.string low, .string ⟨#[]⟩, .bool true] 37)).heap.size := by simp
        clear hst
        have HF := HF0
        clear HF0
        go_wp2_with fail
        refine (CT2.out _).mono ?_
        rintro e w9 ⟨rfl, rfl⟩
        have g1 := hx3.frozen 1
        obtain ⟨y0, y1, y2⟩ := hx3.cells
        have hst : Below w2.heap.size w2 (w2.alloc (.cells #[.string low, .string (s.extract (c + 1) t), .bool true] 37)) := (Below.refl _ _).alloc (Nat.le_refl _) _
        have hx5 : ItemAt (w2.alloc (.cells #[.string low, .string (s.extract (c + 1) t), .bool true] 37)) w2.heap.size low (s.extract (c + 1) t) true := ItemAt.new
        have hz5 := hz2.below hst
        have hb5 := hb2.trans (hst.mono (by omega))
        clear hst hz2 hb2
        have cE := Lib.hid (fun W => ref17_blank s t W (by omega) htl)
        have hld : (loadVar 37 ⟨w2.heap.size, 0, none⟩).run Tryz.prog (w2.alloc (.cells #[.string low, .string (s.extract (c + 1) t), .bool true] 37)).drew = .ok (.agg #[.string low, .string (s.extract (c + 1) t), .bool true]) (w2.alloc (.cells #[.string low, .string (s.extract (c + 1) t), .bool true] 37)).drew := ItemAt.load (show ItemAt (w2.alloc (.cells #[.string low, .string (s.extract (c + 1) t), .bool true] 37)).drew w2.heap.size low (s.extract (c + 1) t) true from hx5)
        have hst := ((hz5.setName low).setValue (s.extract (c + 1) t)).setHas true
        have hb6 := ((hb5.setCell (show w.heap.size ≤ (⟨w.heap.size, 0, none⟩ : Addr).block from Nat.le_refl _) (.string low)).setCell (show w.heap.size ≤ (⟨w.heap.size, 1, none⟩ : Addr).block from Nat.le_refl _) (.string (s.extract (c + 1) t))).setCell (show w.heap.size ≤ (⟨w.heap.size, 2, none⟩ : Addr).block from Nat.le_refl _) (.bool true) |>.drew
        obtain ⟨z0, z1, z2⟩ := hz5.cells
        have f0 := hz5.frozen 0
        have f1 := hz5.frozen 1
        have f2 := hz5.frozen 2
        have HST := Lib.hid hst
        have HB6 := Lib.hid hb6
        clear hst hb6
        have hge : ¬ ((t : Nat) : Int) < 0 := by omega
        have HN := Lib.hid (show paramG (rest s a) = some ((⟨low, (s.extract (c + 1) t), true⟩ : It), rest s (blankN s t)) from HF.out.trans (congrArg (fun l => some ((⟨low, (s.extract (c + 1) t), true⟩ : It), l)) (blankN_rest s t).symm))
        have hbt := Lib.hid (blankN_le s t htl)
        have HTA := Lib.hid hta
        clear HF hta hz5 hb5 hx5 hz3 hb3 hx3
        go_upto_region 16 with (fail)
        go_region_law (go_simp; go_at_call 36; refine (cE.out _).mono ?_; rintro e w9 ⟨rfl, rfl⟩; dsimp only)
        all_goals
          go_wp2_with fail
          (try simp only [Exit.inBlock, Exit.then])
          refine bodyPost_ret (results_item rfl rfl (ItemAt.drewN HST.out 1)) rfl ?_
          exact ⟨HB6.out, .inl ⟨(⟨low, (s.extract (c + 1) t), true⟩ : It), blankN s t, by have := hbt.out.1; have := HTA.out; omega, hbt.out.2, HN.out, rfl⟩⟩
    · rw [if_neg hok] at hv
      subst hv
      have ht : tokAt s (c + 1) = -1 := if_neg hok
      rw [ht] at hcT2
      have HF := Lib.hid (show paramG (rest s a) = none by rw [HP.out]; rfl)
      have CT2 := Lib.hid hcT2
      have m4 := Lib.hid hm
      clear hcT2 ht hok HV HP hm
      by_cases hd : c + 1 < s.size
      · have m2 : (c : Int) + 1 < (s.size : Int) := by omega
        have m1 : ((s[c + 1].toNat : Int) == 34) = false := (u8_is (n := 34) (by decide)).trans (decide_eq_false (fun e => m4.out ⟨hd, e⟩))
        go_enter Tryz.func39, Tryz.ntmps39
        go_wp2_with fail
        refine (CB.out _).mono ?_
        rintro e w2 ⟨rfl, rfl⟩
        go_wp2_with fail
        refine (cT.out _).mono ?_
        rintro e w2 ⟨rfl, rfl⟩
        go_wp2_with fail
        refine (cL.out _).mono ?_
        rintro e w2 ⟨rfl, hk⟩
        have hz2 := hz1.below hk
        have hb2 := hb1.trans (hk.mono (by omega))
        have hs2 : w.heap.size + 1 ≤ w2.heap.size := by have := hk.size; omega
        clear hk hz1 hb1 hs1 cT CB cL
        generalize lowerS (s.extract b c) = low at *
        have hst : Below w2.heap.size w2 (w2.alloc (.cells #[.string low, .string ⟨#[]⟩, .bool true] 37)) := (Below.refl _ _).alloc (Nat.le_refl _) _
        have hz3 := hz2.below hst
        have hb3 := hb2.trans (hst.mono (by omega))
        have hx3 : ItemAt (w2.alloc (.cells #[.string low, .string ⟨#[]⟩, .bool true] 37)) w2.heap.size low ⟨#[]⟩ true := ItemAt.new
        have hs3 : w2.heap.size + 1 ≤ (w2.alloc (.cells #[.string low, .string ⟨#[]⟩, .bool true] 37)).heap.size := by simp
        clear hst
        go_wp2_with fail
        refine (CT2.out _).mono ?_
        rintro e w9 ⟨rfl, rfl⟩
        go_wp2_with (refine wpList_store_item (o := ⟨none, _, _, _, _, _⟩) rfl _ _ rfl w.heap.size ⟨#[]⟩ ⟨#[]⟩ false rfl rfl ⟨#[]⟩ ⟨#[]⟩ false hz3 ?_; intro hst)
        (try simp only [Exit.inBlock, Exit.then])
        refine bodyPost_ret (results_item rfl rfl hst) rfl ?_
        exact ⟨below_setRowI hb3 (Nat.le_refl _) _, .inr ⟨HF.out, rfl⟩⟩
      · have m2 : ¬ (c : Int) + 1 < (s.size : Int) := by omega
        go_enter Tryz.func39, Tryz.ntmps39
        go_wp2_with fail
        refine (CB.out _).mono ?_
        rintro e w2 ⟨rfl, rfl⟩
        go_wp2_with fail
        refine (cT.out _).mono ?_
        rintro e w2 ⟨rfl, rfl⟩
        go_wp2_with fail
        refine (cL.out _).mono ?_
        rintro e w2 ⟨rfl, hk⟩
        have hz2 := hz1.below hk
        have hb2 := hb1.trans (hk.mono (by omega))
        have hs2 : w.heap.size + 1 ≤ w2.heap.size := by have := hk.size; omega
        clear hk hz1 hb1 hs1 cT CB cL
        generalize lowerS (s.extract b c) = low at *
        have hst : Below w2.heap.size w2 (w2.alloc (.cells #[.string low, .string ⟨#[]⟩, .bool true] 37)) := (Below.refl _ _).alloc (Nat.le_refl _) _
        have hz3 := hz2.below hst
        have hb3 := hb2.trans (hst.mono (by omega))
        have hx3 : ItemAt (w2.alloc (.cells #[.string low, .string ⟨#[]⟩, .bool true] 37)) w2.heap.size low ⟨#[]⟩ true := ItemAt.new
        have hs3 : w2.heap.size + 1 ≤ (w2.alloc (.cells #[.string low, .string ⟨#[]⟩, .bool true] 37)).heap.size := by simp
        clear hst
        go_wp2_with fail
        refine (CT2.out _).mono ?_
        rintro e w9 ⟨rfl, rfl⟩
        go_wp2_with (refine wpList_store_item (o := ⟨none, _, _, _, _, _⟩) rfl _ _ rfl w.heap.size ⟨#[]⟩ ⟨#[]⟩ false rfl rfl ⟨#[]⟩ ⟨#[]⟩ false hz3 ?_; intro hst)
        (try simp only [Exit.inBlock, Exit.then])
        refine bodyPost_ret (results_item rfl rfl hst) rfl ?_
        exact ⟨below_setRowI hb3 (Nat.le_refl _) _, .inr ⟨HF.out, rfl⟩⟩
end Go.Proofs.YtndppcklpcfikaaGreatDoor
