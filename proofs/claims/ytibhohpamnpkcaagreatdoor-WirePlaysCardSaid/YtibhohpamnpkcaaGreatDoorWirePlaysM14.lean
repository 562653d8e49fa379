/- media's reader: param. -/
import Derived.Test.YtibhohpamnpkcaaGreatDoorWirePlaysM12
import Derived.Test.YtibhohpamnpkcaaGreatDoorWirePlaysM13

namespace Go.Proofs.YtibhohpamnpkcaaGreatDoor
open Go.RowKit

theorem blankL_len (l : List UInt8) : (blankL l).length ≤ l.length := by unfold blankL; exact (List.dropWhile_sublist _).length_le
theorem tokR_len (l : List UInt8) : (tokR l).length ≤ l.length := by unfold tokR; exact (List.dropWhile_sublist _).length_le
theorem tokW_len (l : List UInt8) : (tokW l).length ≤ l.length := by unfold tokW; exact (List.takeWhile_sublist _).length_le
theorem markG_len (c : UInt8) (l : List UInt8) (b : Bool) : (markG c l b).1.length ≤ l.length := by
  unfold markG
  split
  · exact Nat.le_refl _
  · cases l with
    | nil => simp
    | cons x l => simp only; split <;> simp
/-- What a reader has behind a parameter's mark, name and second mark. -/
def nameG (l : List UInt8) : List UInt8 := tokW (blankL (markG 59 l false).1)
def backG (l : List UInt8) : List UInt8 × Bool := markG 61 (tokR (blankL (markG 59 l false).1)) ((markG 59 l false).2 || !tokOk (nameG l))
theorem markG_bad {c : UInt8} {l : List UInt8} : (markG c l true).2 = true := by unfold markG; simp
theorem param_bad {l : List UInt8} (h : (backG l).2 = true) : paramG l = none := by
  unfold backG nameG at h
  unfold paramG
  cases l with
  | nil => rfl
  | cons x l1 =>
    by_cases hx : x = 59
    · subst hx
      have hm : markG 59 (59 :: l1) false = (l1, false) := by unfold markG; simp
      rw [hm] at h
      simp only
      split
      · next hok =>
        rw [hok] at h
        simp only [Bool.not_true, Bool.or_false] at h
        unfold markG at h
        split
        · next l3 e => rw [e] at h; simp at h
        · rfl
      · rfl
    · split
      · next e => cases e; exact absurd rfl hx
      · rfl
theorem param_good {l : List UInt8} (h : (backG l).2 = false) : paramG l = (valueG (backG l).1).map fun x => (⟨lowerS (ofL (nameG l)), ofL x.1, true⟩, blankL x.2) := by
  unfold backG nameG at h
  unfold backG nameG
  unfold paramG
  cases l with
  | nil =>
    have hm : markG 59 [] false = ([], true) := by unfold markG; simp
    rw [hm] at h
    simp only [Bool.true_or] at h
    rw [markG_bad] at h
    cases h
  | cons x l1 =>
    by_cases hx : x = 59
    · subst hx
      have hm : markG 59 (59 :: l1) false = (l1, false) := by unfold markG; simp
      rw [hm] at h ⊢
      simp only at h ⊢
      cases hok : tokOk (tokW (blankL l1)) with
      | false =>
        rw [hok] at h
        simp only [Bool.not_false, Bool.or_true] at h
        rw [markG_bad] at h
        cases h
      | true =>
        rw [hok] at h
        simp only [Bool.not_true, Bool.or_false] at h ⊢
        rw [if_pos trivial]
        cases ht : tokR (blankL l1) with
        | nil => rw [ht] at h; unfold markG at h; simp at h
        | cons y l3 =>
          rw [ht] at h
          by_cases hy : y = 61
          · subst hy
            have hm2 : markG 61 (61 :: l3) false = (l3, false) := by unfold markG; simp
            rw [hm2]
            rfl
          · unfold markG at h; simp [hy] at h
    · have hm : (markG 59 (x :: l1) false).2 = true := by unfold markG; simp [hx]
      rw [hm] at h
      simp only [Bool.true_or] at h
      rw [markG_bad] at h
      cases h
theorem valueG_mark (l : List UInt8) : valueG (34 :: l) = quotedG l [] := rfl
theorem valueG_tok {l : List UInt8} (h : ∀ l', l ≠ 34 :: l') : valueG l = if tokOk (tokW l) = true then some (tokW l, tokR l) else none := by
  unfold valueG
  split
  · exact absurd rfl (h _)
  · rfl
section
variable {fn : Func} {p : Tmp} {tmps : Array Value} {w : World} {g : Nat} {n v : ByteArray} {b : Bool}
theorem results_item1 (h : fn.results = #[.cell p 102]) (hp : tmps.getD p undef = .pointer (some ⟨g, 0, none⟩)) (hg : ItemAt w g n v b) :
    (results fn tmps).run Tryz.prog w = .ok (.agg #[.string n, .string v, .bool b]) w := by
  have hp' : tmps[p]?.getD undef = .pointer (some ⟨g, 0, none⟩) := by simpa using hp
  simp [results, h, hp', asAddr, Result.andThen, hg.load, Sem.run_bind]
end
theorem ItemAt.but {w w' : World} {g B q : Nat} {n v : ByteArray} {b : Bool} (h : ItemAt w g n v b) (hb : ButB B q w w') (h1 : g < B) (h2 : g ≠ q) : ItemAt w' g n v b := (hb.block g h1 h2).trans h
theorem RdAt.setOther {w : World} {p q : Nat} {l : List UInt8} {bad : Bool} (h : RdAt w p l bad) (hq : q ≠ p) (j : Nat) (u : Value) : RdAt (w.setCell ⟨q, j, none⟩ u) p l bad := (Below.heap_setCell w ⟨q, j, none⟩ u p (fun e => hq e.symm)).trans h
theorem RdAt.setRow {w : World} {p g : Nat} {l : List UInt8} {bad : Bool} (h : RdAt w p l bad) (hg : p ≠ g) (cs : Array Value) : RdAt (w.setRow g cs) p l bad := (setRow_other w g p cs hg).trans h
theorem ButB.setRow {B b g : Nat} {w w' : World} (h : ButB B b w w') (hg : B ≤ g) (cs : Array Value) : ButB B b w (w'.setRow g cs) :=
  ⟨h.os, h.tape, h.output, by simpa using h.size, fun k hk hn => (setRow_other w' g k cs (by omega)).trans (h.block k hk hn)⟩
def RdParam (p B : Nat) (l : List UInt8) (w : World) (e : Ending) (w' : World) : Prop := ButB B p w w' ∧ ((∃ x r, paramG l = some (x, r) ∧ e = .returned (.agg #[.string x.name, .string x.value, .bool x.has]) ∧ RdAt w' p r false) ∨ (paramG l = none ∧ ∃ x r, e = .returned (.agg #[.string (It.name x), .string (It.value x), .bool (It.has x)]) ∧ RdAt w' p r true))
set_option maxHeartbeats 6400000 in
set_option maxRecDepth 100000 in
theorem rd_param (B p : Nat) (l : List UInt8) (w : World) (h : RdAt w p l false) (hB : B ≤ w.heap.size) (hl : l.length ≤ 1000000) :
    Calls Tryz.prog 96 #[.pointer (some ⟨p, 0, none⟩)] w (RdParam p B l w) := by
  have hlt := h.lt
  have hst0 : Below w.heap.size w (w.alloc (.cells #[.string ⟨#[]⟩, .string ⟨#[]⟩, .bool false] 102)) := (Below.refl _ _).alloc (Nat.le_refl _) _
  have h1 := h.below hst0
  have hz1 : ItemAt (w.alloc (.cells #[.string ⟨#[]⟩, .string ⟨#[]⟩, .bool false] 102)) w.heap.size ⟨#[]⟩ ⟨#[]⟩ false := ItemAt.new
  have hbu1 := ButB.of_below (b := p) (hst0.mono hB)
  have hs1 : (w.alloc (.cells #[.string ⟨#[]⟩, .string ⟨#[]⟩, .bool false] 102)).heap.size = w.heap.size + 1 := by simp
  have hbad := fun h => @param_bad l h
  have hgood := fun h => @param_good l h
  have HBAD := Lib.hid hbad
  have HGOOD := Lib.hid hgood
  have hlm := markG_len 59 l false
  have hback : backG l = markG 61 (tokR (blankL (markG 59 l false).1)) ((markG 59 l false).2 || !tokOk (nameG l)) := rfl
  have hname : nameG l = tokW (blankL (markG 59 l false).1) := rfl
  have cM := Lib.hid (rd_mark (w.heap.size + 1) p l false 59 _ h1 (by omega))
  have HBACK := Lib.hid hback
  have HNAME := Lib.hid hname
  clear hbad hgood hback hname h h1 hst0
  go_enter Tryz.func96, Tryz.ntmps96
  go_wp2_with fail
  refine cM.out.mono ?_
  rintro e w2 ⟨rfl, h2, hk⟩
  have hz2 := hz1.but hk (by omega) (by omega)
  have hbu2 := hbu1.trans (hk.mono (by omega))
  have hs2 : w.heap.size + 1 ≤ w2.heap.size := by have := hk.size; omega
  clear hz1 hbu1 hk hs1 cM
  generalize (markG 59 l false).2 = b1 at *
  generalize (markG 59 l false).1 = l1 at *
  have hll := blankL_len l1
  have cB := Lib.hid (rd_blank w2.heap.size p l1 b1 w2 h2 (Nat.le_refl _))
  clear h2
  go_wp2_with fail
  refine cB.out.mono ?_
  rintro e w3 ⟨rfl, h3, hk⟩
  have hz3 := hz2.but hk (by omega) (by omega)
  have hbu3 := hbu2.trans (hk.mono (by omega))
  have hs3 : w.heap.size + 1 ≤ w3.heap.size := by have := hk.size; omega
  clear hz2 hbu2 hk hs2 cB
  generalize blankL l1 = l2 at *
  have hl3 := tokR_len l2
  have hlw := tokW_len l2
  have cT := Lib.hid (rd_token w3.heap.size p l2 b1 w3 h3 (Nat.le_refl _) (by omega))
  rw [← HNAME.out] at cT hlw
  clear h3
  go_wp2_with fail
  refine cT.out.mono ?_
  rintro e w4 ⟨rfl, h4, hk⟩
  have hz4 := hz3.but hk (by omega) (by omega)
  have hbu4 := hbu3.trans (hk.mono (by omega))
  have hs4 : w.heap.size + 1 ≤ w4.heap.size := by have := hk.size; omega
  have hp4 : p < w4.heap.size := h4.lt
  clear hz3 hbu3 hk hs3 cT
  generalize nameG l = nm at *
  generalize tokR l2 = l3 at *
  generalize (b1 || !tokOk nm) = b3 at *
  have cL := Lib.hid (fold_Lower (ofL nm) w4 (by rw [ofL_size]; omega))
  go_wp2_with fail
  refine cL.out.mono ?_
  rintro e w5 ⟨rfl, hk⟩
  have h5 := h4.below hk
  have hz5 := hz4.below hk
  have hbu5 := hbu4.trans (ButB.of_below (hk.mono (by omega)))
  have hs5 : w.heap.size + 1 ≤ w5.heap.size := by have := hk.size; omega
  have hp5 : p < w5.heap.size := h5.lt
  clear hz4 hbu4 hk hs4 cL h4 hp4
  generalize lowerS (ofL nm) = low at *
  have hst5 : Below w5.heap.size w5 (w5.alloc (.cells #[.string low, .string ⟨#[]⟩, .bool true] 102)) := (Below.refl _ _).alloc (Nat.le_refl _) _
  have h6 := h5.below hst5
  have hz6 := hz5.below hst5
  have hy6 : ItemAt (w5.alloc (.cells #[.string low, .string ⟨#[]⟩, .bool true] 102)) w5.heap.size low ⟨#[]⟩ true := ItemAt.new
  have hbu6 := hbu5.trans (ButB.of_below (b := p) (hst5.mono (by omega : B ≤ w5.heap.size)))
  have hs6 : (w5.alloc (.cells #[.string low, .string ⟨#[]⟩, .bool true] 102)).heap.size = w5.heap.size + 1 := by simp
  have cM := Lib.hid (rd_mark (w5.heap.size + 1) p l3 b3 61 _ h6 (by omega))
  have hl4 := markG_len 61 l3 b3
  rw [← HBACK.out] at cM hl4
  clear h5 hz5 hbu5 hst5 h6
  go_wp2_with fail
  refine cM.out.mono ?_
  rintro e w7 ⟨rfl, h7, hk⟩
  have hz7 := hz6.but hk (by omega) (by omega)
  have hy7 := hy6.but hk (by omega) (by omega)
  have hbu7 := hbu6.trans (hk.mono (by omega))
  have hs7 : w5.heap.size + 1 ≤ w7.heap.size := by have := hk.size; omega
  clear hz6 hy6 hbu6 hk hs6 cM HBACK
  generalize (backG l).2 = b4 at *
  generalize (backG l).1 = l4 at *
  generalize w5.heap.size = g at *
  obtain ⟨c0, c1⟩ := h7.cells
  -- END
  have hlow := HGOOD.out
  cases l4 with
  | nil =>
    have cP := Lib.hid (fun W => Tryz.strings_HasPrefix (ofL []) ⟨#[34]⟩ W)
    rw [show Lib.hasPrefix (ofL ([] : List UInt8)).data.toList (⟨#[34]⟩ : ByteArray).data.toList = false from rfl] at cP
    have cT := Lib.hid (rd_token w7.heap.size p [] b4 w7 h7 (Nat.le_refl _) (by simp))
    have hno : valueG ([] : List UInt8) = none := rfl
    have hbadT : (b4 || !tokOk (tokW ([] : List UInt8))) = true := by cases b4 <;> rfl
    rw [hbadT] at cT
    have hnone : paramG l = none := by
      cases b4 with
      | true => exact HBAD.out rfl
      | false => rw [HGOOD.out rfl, hno]; rfl
    have HN := Lib.hid hnone
    clear hnone hno hbadT HBAD HGOOD hlow
    go_wp2_with fail
    refine (cP.out _).mono ?_
    rintro e w7' ⟨rfl, rfl⟩
    go_wp2_with fail
    refine cT.out.mono ?_
    rintro e w8 ⟨rfl, h8, hk⟩
    have hz8 := hz7.but hk (by omega) (by omega)
    have hy8 := hy7.but hk (by omega) (by omega)
    have hbu8 := hbu7.trans (hk.mono (by omega))
    have hs8 : g + 1 ≤ w8.heap.size := by have := hk.size; omega
    clear hz7 hy7 hbu7 hk hs7 cT cP h7 c0 c1
    have g1 := hy8.frozen 1
    obtain ⟨_, y1, _⟩ := hy8.cells
    have h9 := h8.setOther (q := g) (by omega) 1 (.string (ofL (tokW [])))
    have hy9 := hy8.setValue (ofL (tokW []))
    have hz9 := hz8.setOther (q := g) (by omega) 1 (.string (ofL (tokW [])))
    have hst9 : Below w.heap.size w8 (w8.setCell ⟨g, 1, none⟩ (.string (ofL (tokW [])))) := (Below.refl _ _).setCell (show w.heap.size ≤ (⟨g, 1, none⟩ : Addr).block from by show w.heap.size ≤ g; omega) _
    have hbu9 := hbu8.trans (ButB.of_below (hst9.mono hB))
    have hs9 : g + 1 ≤ (w8.setCell ⟨g, 1, none⟩ (.string (ofL (tokW [])))).heap.size := by simpa using hs8
    have cB := Lib.hid (rd_blank _ p (tokR []) true _ h9 (Nat.le_refl _))
    clear hy8 hz8 hbu8 h8 hs8 hst9 h9
    go_wp2_with fail
    refine cB.out.mono ?_
    rintro e w10 ⟨rfl, h10, hk⟩
    have hz10 := hz9.but hk (by omega) (by omega)
    have hy10 := hy9.but hk (by omega) (by omega)
    have hbu10 := hbu9.trans (hk.mono (by omega))
    clear hz9 hy9 hbu9 hk hs9 cB g1 y1
    obtain ⟨y0, y1, y2⟩ := hy10.cells
    go_wp2_with (refine wpList_store_item (o := ⟨none, _, _, _, _, _⟩) rfl _ _ rfl w.heap.size low (ofL (tokW [])) true rfl rfl ⟨#[]⟩ ⟨#[]⟩ false hz10 ?_; intro hst)
    (try simp only [Exit.inBlock, Exit.then])
    refine bodyPost_ret (results_item1 rfl rfl hst) rfl ?_
    have h11 := h10.setRow (g := w.heap.size) (by omega) #[.string low, .string (ofL (tokW [])), .bool true]
    have hbu11 := hbu10.setRow (g := w.heap.size) hB #[.string low, .string (ofL (tokW [])), .bool true]
    exact ⟨hbu11, .inr ⟨HN.out, ⟨low, _, true⟩, _, rfl, h11⟩⟩
  | cons x l5 =>
    by_cases hx : x = 34
    · subst hx
      have cP := Lib.hid (fun W => Tryz.strings_HasPrefix (ofL (34 :: l5)) ⟨#[34]⟩ W)
      rw [show Lib.hasPrefix (ofL (34 :: l5)).data.toList (⟨#[34]⟩ : ByteArray).data.toList = true from rfl] at cP
      cases b4 with
      | true =>
        have HN := Lib.hid (HBAD.out rfl)
        have cQ := Lib.hid (rd_quoted_bad w7.heap.size p (34 :: l5) w7 h7 (Nat.le_refl _))
        clear HBAD HGOOD hlow
        go_wp2_with fail
        refine (cP.out _).mono ?_
        rintro e w7' ⟨rfl, rfl⟩
        go_wp2_with fail
        refine cQ.out.mono ?_
        rintro e w8 ⟨rfl, h8, hk⟩
        have hz8 := hz7.but hk (by omega) (by omega)
        have hy8 := hy7.but hk (by omega) (by omega)
        have hbu8 := hbu7.trans (hk.mono (by omega))
        have hs8 : g + 1 ≤ w8.heap.size := by have := hk.size; omega
        clear hz7 hy7 hbu7 hk hs7 cQ cP h7 c0 c1
        have g1 := hy8.frozen 1
        obtain ⟨_, y1, _⟩ := hy8.cells
        have h9 := h8.setOther (q := g) (by omega) 1 (.string ⟨#[]⟩)
        have hy9 := hy8.setValue ⟨#[]⟩
        have hz9 := hz8.setOther (q := g) (by omega) 1 (.string ⟨#[]⟩)
        have hst9 : Below w.heap.size w8 (w8.setCell ⟨g, 1, none⟩ (.string ⟨#[]⟩)) := (Below.refl _ _).setCell (show w.heap.size ≤ (⟨g, 1, none⟩ : Addr).block from by show w.heap.size ≤ g; omega) _
        have hbu9 := hbu8.trans (ButB.of_below (hst9.mono hB))
        have hs9 : g + 1 ≤ (w8.setCell ⟨g, 1, none⟩ (.string ⟨#[]⟩)).heap.size := by simpa using hs8
        have cB := Lib.hid (rd_blank _ p (34 :: l5) true _ h9 (Nat.le_refl _))
        clear hy8 hz8 hbu8 h8 hs8 hst9 h9
        go_wp2_with fail
        refine cB.out.mono ?_
        rintro e w10 ⟨rfl, h10, hk⟩
        have hz10 := hz9.but hk (by omega) (by omega)
        have hy10 := hy9.but hk (by omega) (by omega)
        have hbu10 := hbu9.trans (hk.mono (by omega))
        clear hz9 hy9 hbu9 hk hs9 cB g1 y1
        obtain ⟨y0, y1, y2⟩ := hy10.cells
        go_wp2_with (refine wpList_store_item (o := ⟨none, _, _, _, _, _⟩) rfl _ _ rfl w.heap.size low ⟨#[]⟩ true rfl rfl ⟨#[]⟩ ⟨#[]⟩ false hz10 ?_; intro hst)
        (try simp only [Exit.inBlock, Exit.then])
        refine bodyPost_ret (results_item1 rfl rfl hst) rfl ?_
        have h11 := h10.setRow (g := w.heap.size) (by omega) #[.string low, .string ⟨#[]⟩, .bool true]
        have hbu11 := hbu10.setRow (g := w.heap.size) hB #[.string low, .string ⟨#[]⟩, .bool true]
        exact ⟨hbu11, .inr ⟨HN.out, ⟨low, _, true⟩, _, rfl, h11⟩⟩
      | false =>
        have hpg := HGOOD.out rfl
        rw [valueG_mark] at hpg
        have HPG := Lib.hid hpg
        have cQ := Lib.hid (rd_quoted w7.heap.size p l5 w7 h7 (Nat.le_refl _) (by simp at hl4; omega))
        clear HBAD HGOOD hlow hpg
        go_wp2_with fail
        refine (cP.out _).mono ?_
        rintro e w7' ⟨rfl, rfl⟩
        go_wp2_with fail
        refine cQ.out.mono ?_
        rintro e w8 ⟨hk, h⟩
        have hz8 := hz7.but hk (by omega) (by omega)
        have hy8 := hy7.but hk (by omega) (by omega)
        have hbu8 := hbu7.trans (hk.mono (by omega))
        have hs8 : g + 1 ≤ w8.heap.size := by have := hk.size; omega
        clear hz7 hy7 hbu7 hk hs7 cQ cP h7 c0 c1
        rcases h with ⟨v, r, hq, rfl, h8⟩ | ⟨hq, rfl, r, h8⟩
        · have hpg := HPG.out
          rw [hq] at hpg
          have HN := Lib.hid hpg
          clear hpg hq HPG
          have g1 := hy8.frozen 1
          obtain ⟨_, y1, _⟩ := hy8.cells
          have h9 := h8.setOther (q := g) (by omega) 1 (.string (ofL v))
          have hy9 := hy8.setValue (ofL v)
          have hz9 := hz8.setOther (q := g) (by omega) 1 (.string (ofL v))
          have hst9 : Below w.heap.size w8 (w8.setCell ⟨g, 1, none⟩ (.string (ofL v))) := (Below.refl _ _).setCell (show w.heap.size ≤ (⟨g, 1, none⟩ : Addr).block from by show w.heap.size ≤ g; omega) _
          have hbu9 := hbu8.trans (ButB.of_below (hst9.mono hB))
          have hs9 : g + 1 ≤ (w8.setCell ⟨g, 1, none⟩ (.string (ofL v))).heap.size := by simpa using hs8
          have cB := Lib.hid (rd_blank _ p r false _ h9 (Nat.le_refl _))
          clear hy8 hz8 hbu8 h8 hs8 hst9 h9
          go_wp2_with fail
          refine cB.out.mono ?_
          rintro e w10 ⟨rfl, h10, hk⟩
          have hz10 := hz9.but hk (by omega) (by omega)
          have hy10 := hy9.but hk (by omega) (by omega)
          have hbu10 := hbu9.trans (hk.mono (by omega))
          clear hz9 hy9 hbu9 hk hs9 cB g1 y1
          obtain ⟨y0, y1, y2⟩ := hy10.cells
          go_wp2_with (refine wpList_store_item (o := ⟨none, _, _, _, _, _⟩) rfl _ _ rfl w.heap.size low (ofL v) true rfl rfl ⟨#[]⟩ ⟨#[]⟩ false hz10 ?_; intro hst)
          (try simp only [Exit.inBlock, Exit.then])
          refine bodyPost_ret (results_item1 rfl rfl hst) rfl ?_
          have h11 := h10.setRow (g := w.heap.size) (by omega) #[.string low, .string (ofL v), .bool true]
          have hbu11 := hbu10.setRow (g := w.heap.size) hB #[.string low, .string (ofL v), .bool true]
          exact ⟨hbu11, .inl ⟨_, _, HN.out, rfl, h11⟩⟩
        · have hpg := HPG.out
          rw [hq] at hpg
          have HN := Lib.hid hpg
          clear hpg hq HPG
          have g1 := hy8.frozen 1
          obtain ⟨_, y1, _⟩ := hy8.cells
          have h9 := h8.setOther (q := g) (by omega) 1 (.string ⟨#[]⟩)
          have hy9 := hy8.setValue ⟨#[]⟩
          have hz9 := hz8.setOther (q := g) (by omega) 1 (.string ⟨#[]⟩)
          have hst9 : Below w.heap.size w8 (w8.setCell ⟨g, 1, none⟩ (.string ⟨#[]⟩)) := (Below.refl _ _).setCell (show w.heap.size ≤ (⟨g, 1, none⟩ : Addr).block from by show w.heap.size ≤ g; omega) _
          have hbu9 := hbu8.trans (ButB.of_below (hst9.mono hB))
          have hs9 : g + 1 ≤ (w8.setCell ⟨g, 1, none⟩ (.string ⟨#[]⟩)).heap.size := by simpa using hs8
          have cB := Lib.hid (rd_blank _ p r true _ h9 (Nat.le_refl _))
          clear hy8 hz8 hbu8 h8 hs8 hst9 h9
          go_wp2_with fail
          refine cB.out.mono ?_
          rintro e w10 ⟨rfl, h10, hk⟩
          have hz10 := hz9.but hk (by omega) (by omega)
          have hy10 := hy9.but hk (by omega) (by omega)
          have hbu10 := hbu9.trans (hk.mono (by omega))
          clear hz9 hy9 hbu9 hk hs9 cB g1 y1
          obtain ⟨y0, y1, y2⟩ := hy10.cells
          go_wp2_with (refine wpList_store_item (o := ⟨none, _, _, _, _, _⟩) rfl _ _ rfl w.heap.size low ⟨#[]⟩ true rfl rfl ⟨#[]⟩ ⟨#[]⟩ false hz10 ?_; intro hst)
          (try simp only [Exit.inBlock, Exit.then])
          refine bodyPost_ret (results_item1 rfl rfl hst) rfl ?_
          have h11 := h10.setRow (g := w.heap.size) (by omega) #[.string low, .string ⟨#[]⟩, .bool true]
          have hbu11 := hbu10.setRow (g := w.heap.size) hB #[.string low, .string ⟨#[]⟩, .bool true]
          exact ⟨hbu11, .inr ⟨HN.out, ⟨low, _, true⟩, _, rfl, h11⟩⟩
    · have cP := Lib.hid (fun W => Tryz.strings_HasPrefix (ofL (x :: l5)) ⟨#[34]⟩ W)
      have hpf : Lib.hasPrefix (ofL (x :: l5)).data.toList (⟨#[34]⟩ : ByteArray).data.toList = false := by
        rw [ofL_list2]
        show ([34] : List UInt8).isPrefixOf (x :: l5) = false
        simp [List.isPrefixOf]
        exact fun e => hx e.symm
      rw [hpf] at cP
      have cT := Lib.hid (rd_token w7.heap.size p (x :: l5) b4 w7 h7 (Nat.le_refl _) (by omega))
      have hv := valueG_tok (l := x :: l5) (fun l' e => hx (by injection e))
      have hyes : (b4 || !tokOk (tokW (x :: l5))) = false → paramG l = some (⟨low, ofL (tokW (x :: l5)), true⟩, blankL (tokR (x :: l5))) := by
        intro h
        rw [Bool.or_eq_false_iff] at h
        have h2 : tokOk (tokW (x :: l5)) = true := by simpa using h.2
        rw [HGOOD.out h.1, hv, if_pos h2]
        rfl
      have hno : (b4 || !tokOk (tokW (x :: l5))) = true → paramG l = none := by
        intro h
        cases b4 with
        | true => exact HBAD.out rfl
        | false =>
          have h2 : ¬ tokOk (tokW (x :: l5)) = true := by simpa using h
          rw [HGOOD.out rfl, hv, if_neg h2]
          rfl
      have HY := Lib.hid hyes
      have HNO := Lib.hid hno
      clear hyes hno hpf hv HBAD HGOOD hlow hx
      generalize (b4 || !tokOk (tokW (x :: l5))) = b5 at *
      go_wp2_with fail
      refine (cP.out _).mono ?_
      rintro e w7' ⟨rfl, rfl⟩
      go_wp2_with fail
      refine cT.out.mono ?_
      rintro e w8 ⟨rfl, h8, hk⟩
      have hz8 := hz7.but hk (by omega) (by omega)
      have hy8 := hy7.but hk (by omega) (by omega)
      have hbu8 := hbu7.trans (hk.mono (by omega))
      have hs8 : g + 1 ≤ w8.heap.size := by have := hk.size; omega
      clear hz7 hy7 hbu7 hk hs7 cT cP h7 c0 c1
      generalize tokR (x :: l5) = r at *
      generalize tokW (x :: l5) = v at *
      have g1 := hy8.frozen 1
      obtain ⟨_, y1, _⟩ := hy8.cells
      have h9 := h8.setOther (q := g) (by omega) 1 (.string (ofL v))
      have hy9 := hy8.setValue (ofL v)
      have hz9 := hz8.setOther (q := g) (by omega) 1 (.string (ofL v))
      have hst9 : Below w.heap.size w8 (w8.setCell ⟨g, 1, none⟩ (.string (ofL v))) := (Below.refl _ _).setCell (show w.heap.size ≤ (⟨g, 1, none⟩ : Addr).block from by show w.heap.size ≤ g; omega) _
      have hbu9 := hbu8.trans (ButB.of_below (hst9.mono hB))
      have hs9 : g + 1 ≤ (w8.setCell ⟨g, 1, none⟩ (.string (ofL v))).heap.size := by simpa using hs8
      have cB := Lib.hid (rd_blank _ p r b5 _ h9 (Nat.le_refl _))
      clear hy8 hz8 hbu8 h8 hs8 hst9 h9
      go_wp2_with fail
      refine cB.out.mono ?_
      rintro e w10 ⟨rfl, h10, hk⟩
      have hz10 := hz9.but hk (by omega) (by omega)
      have hy10 := hy9.but hk (by omega) (by omega)
      have hbu10 := hbu9.trans (hk.mono (by omega))
      clear hz9 hy9 hbu9 hk hs9 cB g1 y1
      obtain ⟨y0, y1, y2⟩ := hy10.cells
      go_wp2_with (refine wpList_store_item (o := ⟨none, _, _, _, _, _⟩) rfl _ _ rfl w.heap.size low (ofL v) true rfl rfl ⟨#[]⟩ ⟨#[]⟩ false hz10 ?_; intro hst)
      (try simp only [Exit.inBlock, Exit.then])
      refine bodyPost_ret (results_item1 rfl rfl hst) rfl ?_
      have h11 := h10.setRow (g := w.heap.size) (by omega) #[.string low, .string (ofL v), .bool true]
      have hbu11 := hbu10.setRow (g := w.heap.size) hB #[.string low, .string (ofL v), .bool true]
      cases b5
      · exact ⟨hbu11, .inl ⟨_, _, HY.out rfl, rfl, h11⟩⟩
      · exact ⟨hbu11, .inr ⟨HNO.out rfl, ⟨low, _, true⟩, _, rfl, h11⟩⟩
end Go.Proofs.YtibhohpamnpkcaaGreatDoor
