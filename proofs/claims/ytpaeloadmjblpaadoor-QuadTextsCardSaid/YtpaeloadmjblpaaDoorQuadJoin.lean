/- strings.Join of four short texts with points between. -/
import Derived.Test.YtpaeloadmjblpaaDoorBuilder
import Derived.Test.YtpaeloadmjblpaaDoorUnder
import Derived.Test.YtpaeloadmjblpaaDoorBa
import Derived.Test.YtpaeloadmjblpaaDoorShelf
namespace Go.Proofs.YtpaeloadmjblpaaDoor
open Go.RowKit

/-- Four texts lie in a row. -/
def Four (w : World) (g : Nat) (a b c d : ByteArray) : Prop := g < w.heap.size ∧ w.cell? ⟨g, 0, none⟩ = some (.string a) ∧ w.cell? ⟨g, 1, none⟩ = some (.string b) ∧ w.cell? ⟨g, 2, none⟩ = some (.string c) ∧ w.cell? ⟨g, 3, none⟩ = some (.string d)
theorem Four.kept {w w' : World} {g : Nat} {a b c d : ByteArray} (h : Four w g a b c d) (hs : w.heap.size ≤ w'.heap.size) (hb : w'.heap[g]? = w.heap[g]?) : Four w' g a b c d := by
  obtain ⟨h0, h1, h2, h3, h4⟩ := h
  exact ⟨by omega, (World.cell?_of_block hb).trans h1, (World.cell?_of_block hb).trans h2, (World.cell?_of_block hb).trans h3, (World.cell?_of_block hb).trans h4⟩
theorem Four.below {w w' : World} {g : Nat} {a b c d : ByteArray} (h : Four w g a b c d) (hb : Below w.heap.size w w') : Four w' g a b c d := h.kept hb.size (hb.block g h.1)
theorem Four.but {w w' : World} {g B q : Nat} {a b c d : ByteArray} (h : Four w g a b c d) (hb : ButB B q w w') (h1 : g < q) (h2 : q < B) : Four w' g a b c d := h.kept hb.size (hb.block g (by omega) (by omega))
/-- What Grow leaves is a builder of our kind. -/
theorem bld_of_grown {w : World} {b : Nat} (h : Lib.BuilderAt 93 5 b b (.pointer (some ⟨b, 0, none⟩)) [] w) : Bld w (b + 1) b [] := by
  obtain ⟨hB, v, hb, hown, hne⟩ := h
  refine ⟨by omega, _, v, .inr rfl, hb, ?_⟩
  refine ⟨hown.1, ?_⟩
  rcases hown.2 with h0 | ⟨q, cap, cur, hv, hq, r⟩
  · exact .inl h0
  · subst hv
    have : q ≠ b := fun e => hne (by rw [e]; rfl)
    exact .inr ⟨q, cap, cur, rfl, by omega, r⟩
def joinL (a b c d : ByteArray) : List UInt8 := a.data.toList ++ 46 :: (b.data.toList ++ 46 :: (c.data.toList ++ 46 :: d.data.toList))
set_option maxHeartbeats 6400000 in
set_option maxRecDepth 100000 in
theorem join4 (g cap : Nat) (a b c d : ByteArray) (w : World) (h : Four w g a b c d) (ha : a.size ≤ 3) (hb : b.size ≤ 3) (hc : c.size ≤ 3) (hd : d.size ≤ 3) (hcap : 4 ≤ cap) (hcm : cap ≤ maxLen) :
    Calls Tryd.prog 37 #[.slice (some ⟨g, 0, none⟩) 4 cap, .string ⟨#[46]⟩] w fun e w' => e = .returned (.string ⟨(joinL a b c d).toArray⟩) ∧ Below w.heap.size w w' := by
  have hal : a.data.toList.length = a.size := rfl
  have hbl : b.data.toList.length = b.size := rfl
  have hcl : c.data.toList.length = c.size := rfl
  have hdl : d.data.toList.length = d.size := rfl
  have hpt : (⟨#[46]⟩ : ByteArray).data.toList = [46] := rfl
  obtain ⟨h0, h1, h2, h3, h4⟩ := id h
  have H := Lib.hid h
  have hnew : (w.alloc (.cells #[.pointer none, .slice none 0 0] 93)).heap[w.heap.size]? = some (.cells #[.pointer none, .slice none 0 0] 93 (0, 0)) := heap_alloc_new w _
  have cG := Lib.hid (fun n hn => Tryd.Builder_Grow_fresh w.heap.size w.heap.size n (w.alloc (.cells #[.pointer none, .slice none 0 0] 93)) (Nat.le_refl _) hnew (by simp) hn)
  unfold maxLen at hcm
  clear h hnew
  go_enter Tryd.func37, Tryd.ntmps37
  go_wp2_with fail
  refine wp_loop_rounds 5 ?_
  rw [rounds_succ]
  go_wp2_with fail
  rw [rounds_succ]
  go_wp2_with fail
  rw [rounds_succ]
  go_wp2_with fail
  rw [rounds_succ]
  go_wp2_with fail
  rw [rounds_succ]
  go_wp2_with fail
  have e1 : (3 : Int) + (a.size : Int) + (b.size : Int) + (c.size : Int) + (d.size : Int) = ((3 + a.size + b.size + c.size + d.size : Nat) : Int) := by omega
  rw [e1]
  refine (cG.out (3 + a.size + b.size + c.size + d.size) (by omega)).mono ?_
  rintro e w2 ⟨rfl, hB, hb2⟩
  have hbr2 := bld_of_grown hB
  have hs2 : w.heap.size + 1 ≤ w2.heap.size := by have := hb2.size; simpa using this
  have hF2 : Four w2 g a b c d := H.out.kept (by omega) ((hb2.block g H.out.1).trans (heap_alloc_old w _ H.out.1))
  have hB2 : Below w.heap.size w w2 := ((Below.refl w.heap.size w).alloc (Nat.le_refl _) _).trans hb2
  have hg := H.out.1
  clear hB hb2 e1 h0 h1 h2 h3 h4
  obtain ⟨f0, f1, f2, f3, f4⟩ := id hF2
  go_wp2_with fail
  refine (bld_WriteString (w.heap.size + 1) w.heap.size [] a _ hbr2 (by simp; omega) hs2).mono ?_
  rintro e w3 ⟨rfl, hbr3, hbu3⟩
  have hF3 := hF2.but hbu3 hg (by omega)
  have hs3 : w.heap.size + 1 ≤ w3.heap.size := by have := hbu3.size; omega
  have hB3 : Below w.heap.size w w3 := hB2.trans (hbu3.below (Nat.le_refl _) (by omega))
  clear f0 f1 f2 f3 f4 hF2 hbr2 hs2 hB2 hbu3
  obtain ⟨f0, f1, f2, f3, f4⟩ := id hF3
  go_wp2_with fail
  refine wp_loop_rounds 4 ?_
  rw [rounds_succ]
  go_wp2_with fail
  refine (bld_WriteString (w.heap.size + 1) w.heap.size ([] ++ a.data.toList) ⟨#[46]⟩ _ hbr3 (by show List.length _ + 1 ≤ _; simp [hpt]; omega) hs3).mono ?_
  rintro e w4 ⟨rfl, hbr4, hbu4⟩
  have hF4 := hF3.but hbu4 hg (by omega)
  have hs4 : w.heap.size + 1 ≤ w4.heap.size := by have := hbu4.size; omega
  have hB4 : Below w.heap.size w w4 := hB3.trans (hbu4.below (Nat.le_refl _) (by omega))
  clear f0 f1 f2 f3 f4 hF3 hbr3 hs3 hB3 hbu4
  obtain ⟨f0, f1, f2, f3, f4⟩ := id hF4
  go_wp2_with fail
  refine (bld_WriteString (w.heap.size + 1) w.heap.size (([] ++ a.data.toList) ++ (⟨#[46]⟩ : ByteArray).data.toList) b _ hbr4 (by simp [hpt]; omega) hs4).mono ?_
  rintro e w5 ⟨rfl, hbr5, hbu5⟩
  have hF5 := hF4.but hbu5 hg (by omega)
  have hs5 : w.heap.size + 1 ≤ w5.heap.size := by have := hbu5.size; omega
  have hB5 : Below w.heap.size w w5 := hB4.trans (hbu5.below (Nat.le_refl _) (by omega))
  clear f0 f1 f2 f3 f4 hF4 hbr4 hs4 hB4 hbu5
  obtain ⟨f0, f1, f2, f3, f4⟩ := id hF5
  go_wp2_with fail
  rw [rounds_succ]
  go_wp2_with fail
  refine (bld_WriteString (w.heap.size + 1) w.heap.size ((([] ++ a.data.toList) ++ (⟨#[46]⟩ : ByteArray).data.toList) ++ b.data.toList) ⟨#[46]⟩ _ hbr5 (by show List.length _ + 1 ≤ _; simp [hpt]; omega) hs5).mono ?_
  rintro e w6 ⟨rfl, hbr6, hbu6⟩
  have hF6 := hF5.but hbu6 hg (by omega)
  have hs6 : w.heap.size + 1 ≤ w6.heap.size := by have := hbu6.size; omega
  have hB6 : Below w.heap.size w w6 := hB5.trans (hbu6.below (Nat.le_refl _) (by omega))
  clear f0 f1 f2 f3 f4 hF5 hbr5 hs5 hB5 hbu6
  obtain ⟨f0, f1, f2, f3, f4⟩ := id hF6
  go_wp2_with fail
  refine (bld_WriteString (w.heap.size + 1) w.heap.size (((([] ++ a.data.toList) ++ (⟨#[46]⟩ : ByteArray).data.toList) ++ b.data.toList) ++ (⟨#[46]⟩ : ByteArray).data.toList) c _ hbr6 (by simp [hpt]; omega) hs6).mono ?_
  rintro e w7 ⟨rfl, hbr7, hbu7⟩
  have hF7 := hF6.but hbu7 hg (by omega)
  have hs7 : w.heap.size + 1 ≤ w7.heap.size := by have := hbu7.size; omega
  have hB7 : Below w.heap.size w w7 := hB6.trans (hbu7.below (Nat.le_refl _) (by omega))
  clear f0 f1 f2 f3 f4 hF6 hbr6 hs6 hB6 hbu7
  obtain ⟨f0, f1, f2, f3, f4⟩ := id hF7
  go_wp2_with fail
  rw [rounds_succ]
  go_wp2_with fail
  refine (bld_WriteString (w.heap.size + 1) w.heap.size ((((([] ++ a.data.toList) ++ (⟨#[46]⟩ : ByteArray).data.toList) ++ b.data.toList) ++ (⟨#[46]⟩ : ByteArray).data.toList) ++ c.data.toList) ⟨#[46]⟩ _ hbr7 (by show List.length _ + 1 ≤ _; simp [hpt]; omega) hs7).mono ?_
  rintro e w8 ⟨rfl, hbr8, hbu8⟩
  have hF8 := hF7.but hbu8 hg (by omega)
  have hs8 : w.heap.size + 1 ≤ w8.heap.size := by have := hbu8.size; omega
  have hB8 : Below w.heap.size w w8 := hB7.trans (hbu8.below (Nat.le_refl _) (by omega))
  clear f0 f1 f2 f3 f4 hF7 hbr7 hs7 hB7 hbu8
  obtain ⟨f0, f1, f2, f3, f4⟩ := id hF8
  go_wp2_with fail
  refine (bld_WriteString (w.heap.size + 1) w.heap.size (((((([] ++ a.data.toList) ++ (⟨#[46]⟩ : ByteArray).data.toList) ++ b.data.toList) ++ (⟨#[46]⟩ : ByteArray).data.toList) ++ c.data.toList) ++ (⟨#[46]⟩ : ByteArray).data.toList) d _ hbr8 (by simp [hpt]; omega) hs8).mono ?_
  rintro e w9 ⟨rfl, hbr9, hbu9⟩
  have hF9 := hF8.but hbu9 hg (by omega)
  have hs9 : w.heap.size + 1 ≤ w9.heap.size := by have := hbu9.size; omega
  have hB9 : Below w.heap.size w w9 := hB8.trans (hbu9.below (Nat.le_refl _) (by omega))
  clear f0 f1 f2 f3 f4 hF8 hbr8 hs8 hB8 hbu9
  obtain ⟨f0, f1, f2, f3, f4⟩ := id hF9
  go_wp2_with fail
  rw [rounds_succ]
  go_wp2_with fail
  refine (bld_String _ _ _ _ hbr9 hs9).mono ?_
  rintro e wz ⟨rfl, hbz⟩
  have hBz := hB9.trans hbz
  go_wp2_with fail
  go_ret
  exact ⟨rfl, hBz⟩
end Go.Proofs.YtpaeloadmjblpaaDoor
