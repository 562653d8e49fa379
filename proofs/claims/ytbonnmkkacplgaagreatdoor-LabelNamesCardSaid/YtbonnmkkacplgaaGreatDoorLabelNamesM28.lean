/- label.Shown; the reference's; what is shown is told back. -/
import Derived.Test.YtbonnmkkacplgaaGreatDoorLabelNamesM21
import Derived.Test.YtbonnmkkacplgaaGreatDoorLabelNamesM27
import Derived.Test.YtbonnmkkacplgaaGreatDoorLabelNamesM6
import Derived.Test.YtbonnmkkacplgaaGreatDoorLabelNamesM16
import Derived.Test.YtbonnmkkacplgaaGreatDoorLabelNamesM11
import Derived.Test.YtbonnmkkacplgaaGreatDoorLabelNamesM12
import Derived.Laws.OwnMore
import Derived.Deep.OwnRows
import Derived.Maps.AppendAt
import Derived.Test.YtbonnmkkacplgaaGreatDoorLabelNamesM17
import Derived.Test.YtbonnmkkacplgaaGreatDoorLabelNamesM20

namespace Go.Proofs.YtbonnmkkacplgaaGreatDoor
open Go.RowKit

/-- How a label is shown. -/
def shownL (s : ByteArray) : ByteArray := match labD s with | some l => ⟨(putAll l).toArray⟩ | none => s
theorem shownL_some {s : ByteArray} {l : List Nat} (h : labD s = some l) : shownL s = ⟨(putAll l).toArray⟩ := by unfold shownL; rw [h]
theorem shownL_none {s : ByteArray} (h : labD s = none) : shownL s = s := by unfold shownL; rw [h]
theorem coded_of_lab {s : ByteArray} {l : List Nat} (h : labD s = some l) : codedB s = true := by
  obtain ⟨h1, _⟩ := labD_inv h
  have hp : xnL <+: s.data.toList := List.isPrefixOf_iff_prefix.1 h1
  obtain ⟨r, hr⟩ := hp
  have hl : s.data.toList.length = s.size := rfl
  rw [← hr] at hl
  simp [xnL] at hl
  have h2 : byteAt s 2 = 45 := by unfold byteAt; rw [← hr]; rfl
  have h3 : byteAt s 3 = 45 := by unfold byteAt; rw [← hr]; rfl
  exact decide_eq_true ⟨by omega, h2, h3⟩
theorem right_inv {s : ByteArray} (h : (rightL s).1 = 0) : s.size ≤ 63 ∧ s.size ≠ 0 ∧ badAt s s.size 0 = none ∧ fineB s = true := by
  by_cases h0 : s.size = 0
  · rw [rightL_empty h0] at h; cases h
  · by_cases h1 : 63 < s.size
    · rw [rightL_long h0 h1] at h; cases h
    · cases hb : badAt s s.size 0 with
      | some i => rw [rightL_bad h0 h1 hb] at h; cases h
      | none =>
        rw [rightL_fine h0 h1 hb] at h
        cases hf : fineB s with
        | true => exact ⟨by omega, h0, rfl, rfl⟩
        | false => rw [hf] at h; cases h
theorem may_small {c : Nat} (h : mayB c = true) : smallN c = c := by
  unfold smallN
  rw [if_neg]
  intro hh
  unfold mayB at h
  have e1 : smallZ (c : Int) = false := decide_eq_false (by omega)
  have e2 : charZ (c : Int) = false := char_out (by unfold inSpan; omega)
  rw [e1, e2] at h
  cases h
theorem badC_none : ∀ (l : List Nat) (k : Nat), (∀ c ∈ l, mayB c = true) → badC l k = none := by
  intro l
  induction l with
  | nil => intro k _; rfl
  | cons c l ih => intro k h; rw [badC_next (h c (by simp))]; exact ih _ fun x hx => h x (by simp [hx])
theorem putAll_le4 (l : List Nat) : (putAll l).length ≤ 4 * l.length := by
  induction l with
  | nil => exact Nat.zero_le _
  | cons c l ih => rw [putAll_cons, List.length_append, List.length_cons]; have := putL_le c; omega
theorem shown_size {s : ByteArray} (h : (rightL s).1 = 0) : (shownL s).size ≤ 1024 := by
  obtain ⟨h1, _⟩ := right_inv h
  cases hl : labD s with
  | none => rw [shownL_none hl]; omega
  | some l =>
    rw [shownL_some hl]
    obtain ⟨_, h2, _⟩ := labD_inv hl
    have h3 := (decE_facts h2).2
    have h4 := putAll_le4 l
    show (putAll l).toArray.size ≤ 1024
    simp
    omega
/-- What is shown is told back. -/
theorem shown_back {s : ByteArray} (h : (rightL s).1 = 0) : asciiL (shownL s) = .ok s := by
  obtain ⟨h1, h2, h3, h4⟩ := right_inv h
  cases hl : labD s with
  | none => rw [shownL_none hl]; exact ascii_fix h
  | some l =>
    rw [shownL_some hl]
    obtain ⟨p1, p2, p3, p4, p5, p6⟩ := labD_inv hl
    obtain ⟨f1, f2⟩ := decE_facts p2
    have hmay := List.all_eq_true.1 p3
    have hc := chrs_put l fun c hc => (rightC_iff c).2 (f1 c hc)
    have hlow : lowerS ⟨(putAll l).toArray⟩ = ⟨(putAll l).toArray⟩ := by
      have e : lowerS ⟨(putAll l).toArray⟩ = ⟨((putAll l).map lowerB).toArray⟩ := rfl
      have e2 : l.map smallN = l := by
        have := List.map_congr_left (l := l) (f := smallN) (g := id) fun c hc => may_small (hmay c hc)
        rw [this, List.map_id]
      rw [e, lower_all l fun c hc => (rightC_iff c).2 (f1 c hc), e2]
    rw [asciiL_wide (by rw [hc]) (by rw [hc]; exact p4), hlow, lowC_ok (by rw [hc]), hc]
    have hp : xnL <+: s.data.toList := List.isPrefixOf_iff_prefix.1 p1
    obtain ⟨r, hr⟩ := hp
    have hbr : (bodyS s).data.toList = r := by
      show s.data.toList.drop 4 = r
      rw [← hr]
      rfl
    have hsz : s.data.toList.length = s.size := rfl
    have hrl : r.length + 4 = s.size := by
      rw [← hr, List.length_append] at hsz
      have : xnL.length = 4 := rfl
      omega
    rw [asciiW_ok (badC_none l 0 hmay) p6 (by rw [p5, hbr]; omega)]
    congr 1
    apply ba_ext
    show xnL ++ encN l = s.data.toList
    rw [p5, hbr, hr]
theorem rightLen_nats {l : List Nat} (h : ∀ c ∈ l, rightB (c : Int) = true) : rightLen (intsN l) = (intsN l).length := intsN_right l h
def ShownPost (s : ByteArray) (w : World) (e : Ending) (w' : World) : Prop := Below w.heap.size w w' ∧
  (((rightL s).1 ≠ 0 ∧ ∃ v, e = .returned (.tuple #[.string ⟨#[]⟩, v]) ∧ IsFault w' v (rightL s).1 (rightL s).2) ∨ ((rightL s).1 = 0 ∧ e = .returned (.tuple #[.string (shownL s), .nilIface])))
set_option maxHeartbeats 3200000 in
set_option maxRecDepth 100000 in
theorem label_Shown (s : ByteArray) (w : World) (hS : SpanLaid w) (hs : s.size ≤ 1000000) : Calls Tryz.prog 21 #[.string s] w (ShownPost s w) := by
  have c1 := Lib.hid (fun W h => label_Right s W h hs)
  have c2 := Lib.hid (fun W => label_coded s W hs)
  have c3 := Lib.hid (fun W h => label_decode s W h hs)
  go_enter Tryz.func21, Tryz.ntmps21
  go_wp2_with fail
  refine (c1.out _ hS).mono ?_
  rintro e w1 ⟨hb1, v, rfl, hv⟩
  have hS := hS.below hb1
  rcases hv with ⟨h0, rfl⟩ | ⟨h0, hv⟩
  · obtain ⟨_, _, _, hf⟩ := right_inv h0
    have hfb : fineB s = (decide (byteAt s 0 ≠ 45) && decide (byteAt s (s.size - 1) ≠ 45) && (!codedB s || (labD s).isSome)) := rfl
    rw [hf] at hfb
    have H0 := Lib.hid h0
    clear h0 hf
    cases hc : codedB s with
    | false =>
      rw [hc] at c2
      have hn : labD s = none := by
        cases hl : labD s with
        | none => rfl
        | some l => rw [coded_of_lab hl] at hc; cases hc
      have HX := Lib.hid (shownL_none hn)
      clear hfb hc hn
      go_wp2_with fail
      refine (c2.out _).mono ?_
      rintro e w2 ⟨rfl, hw2⟩
      obtain rfl := hw2
      go_wp2_with fail
      go_ret2
      exact ⟨hb1, .inr ⟨H0.out, by rw [HX.out]; rfl⟩⟩
    | true =>
      rw [hc] at c2
      have hn : (labD s).isSome = true := by
        rw [hc] at hfb
        cases hl : (labD s).isSome with
        | true => rfl
        | false => rw [hl] at hfb; simp at hfb
      have HN := Lib.hid hn
      clear hfb hc hn
      go_wp2_with fail
      refine (c2.out _).mono ?_
      rintro e w2 ⟨rfl, hw2⟩
      obtain rfl := hw2
      go_wp2_with fail
      refine (c3.out _ hS).mono ?_
      rintro e w3 ⟨hb3, h3⟩
      have hb := Bt hb1 hb3
      rcases h3 with ⟨hl, _⟩ | ⟨l, v, hl, rfl, hown⟩
      · have := HN.out
        rw [hl] at this
        cases this
      · have HX := Lib.hid (shownL_some hl)
        obtain ⟨_, h2, _⟩ := labD_inv hl
        obtain ⟨f1, f2⟩ := decE_facts h2
        have c4 := Lib.hid (utf_Text v (intsN l) w3 (by rw [intsN_len]; omega) hown.sl)
        have hR := Lib.hid (rightLen_nats f1)
        have hN := Lib.hid (nats_intsN l)
        clear hl h2 f1 f2 hown hb3
        go_wp2_with fail
        refine c4.out.mono ?_
        rintro e w4 ⟨hb4, h4⟩
        have hb := Bt hb hb4
        rcases h4 with ⟨_, v4, rfl, hv4⟩ | ⟨hlt, _⟩
        · have hcv := hv4.conv
          rw [hN.out, ← HX.out] at hcv
          clear hb4 hv4
          go_wp2_with fail
          go_ret2
          exact ⟨hb, .inr ⟨H0.out, rfl⟩⟩
        · have := hR.out
          omega
  · obtain ⟨p, rfl⟩ := hv.ne_nil
    have HV := Lib.hid hv
    have H0 := Lib.hid h0
    clear hv h0
    go_wp2_with fail
    go_ret2
    exact ⟨hb1, .inl ⟨H0.out, _, rfl, HV.out⟩⟩
set_option maxHeartbeats 3200000 in
set_option maxRecDepth 100000 in
theorem ref10_Shown (s : ByteArray) (w : World) (hs : s.size ≤ 2000) : Calls Tryz.prog 22 #[.string s] w fun e w' => e = .returned (.string (shownL s)) ∧ Below w.heap.size w w' := by
  have c3 := Lib.hid (fun W => ref10_Coded s W hs)
  go_enter Tryz.func22, Tryz.ntmps22
  go_wp2_with fail
  refine (c3.out _).mono ?_
  rintro e w3 ⟨hb, h3⟩
  rcases h3 with ⟨hl, v, rfl⟩ | ⟨l, v, hl, rfl, hown⟩
  · have HX := Lib.hid (shownL_none hl)
    clear hl
    go_wp2_with fail
    go_ret
    exact ⟨by rw [HX.out]; rfl, hb⟩
  · have HX := Lib.hid (shownL_some hl)
    obtain ⟨_, h2, _⟩ := labD_inv hl
    obtain ⟨f1, f2⟩ := decE_facts h2
    have c4 := Lib.hid (ref_Text v (intsN l) w3 (by rw [intsN_len]; omega) hown.sl)
    have hR := Lib.hid (rightLen_nats f1)
    have hN := Lib.hid (nats_intsN l)
    clear hl h2 f1 f2 hown
    go_wp2_with fail
    refine c4.out.mono ?_
    rintro e w4 ⟨hb4, h4⟩
    have hb := Bt hb hb4
    rcases h4 with ⟨_, v4, rfl, hv4⟩ | ⟨hlt, _⟩
    · have hcv := hv4.conv
      rw [hN.out, ← HX.out] at hcv
      clear hb4 hv4
      go_wp2_with fail
      go_ret
      exact ⟨rfl, hb⟩
    · have := hR.out
      omega
end Go.Proofs.YtbonnmkkacplgaaGreatDoor

/- Items, in memory. -/
namespace Go.Proofs.YtbonnmkkacplgaaGreatDoor
open Go.RowKit

structure It where
  name : ByteArray
  value : ByteArray
  has : Bool
deriving DecidableEq

def itemC (x : It) : List Value := [.string x.name, .string x.value, .bool x.has]
def itemsV (l : List It) : List Value := l.flatMap itemC
theorem itemsV_len (l : List It) : (itemsV l).length = l.length * 3 := by
  induction l with
  | nil => rfl
  | cons p l ih =>
    unfold itemsV at ih ⊢
    rw [List.flatMap_cons, List.length_append, ih, List.length_cons]
    show 3 + _ = _
    omega
theorem itemsV_app (a b : List It) : itemsV (a ++ b) = itemsV a ++ itemsV b := by unfold itemsV; exact List.flatMap_append
theorem itemsV_at {l : List It} {i : Nat} {p : It} (h : l[i]? = some p) (j : Nat) (hj : j < 3) : (itemsV l)[i * 3 + j]? = (itemC p)[j]? := by
  induction l generalizing i with
  | nil => simp at h
  | cons q l ih =>
    cases i with
    | zero =>
      simp at h; subst h
      show (itemC q ++ itemsV l)[0 * 3 + j]? = _
      rw [List.getElem?_append_left (by show _ < 3; omega)]
      congr 1; omega
    | succ i =>
      simp at h
      show (itemC q ++ itemsV l)[(i + 1) * 3 + j]? = _
      rw [List.getElem?_append_right (by show 3 ≤ _; omega), ← ih h]
      congr 1
      show (i + 1) * 3 + j - 3 = _
      omega
theorem itemC_one (p : It) : ∀ u ∈ itemC p, u.oneCell' = true := by
  intro u hu
  unfold itemC at hu
  simp at hu
  rcases hu with rfl | rfl | rfl <;> rfl

/-- A row that is read, beside a row of the call's own. -/
def Beside (pa : Option Addr) (v : Value) : Prop := ∀ b, pa = some ⟨b, 0, none⟩ → v.ownBlock ≠ some b
theorem RowSl.grown {w w2 : World} {pa : Option Addr} {l : List Value} {v : Value} (h : RowSl w pa l) (hg : w.grownBy w2 v.ownBlock) (hne : Beside pa v) : RowSl w2 pa l := by
  intro i x hx
  obtain ⟨b, e, hlt, h1⟩ := h i x hx
  have hk := hg.block b hlt (fun e' => hne b e e'.symm)
  exact ⟨b, e, Nat.lt_of_lt_of_le hlt hg.size, (World.cell?_of_block hk).trans h1⟩
theorem Beside.at {N : Nat} {pa : Option Addr} {v v' : Value} (h : Beside pa v) (hat : v'.ownBlock = v.ownBlock ∨ v'.ownBlock = some N) (hlt : ∀ b, pa = some ⟨b, 0, none⟩ → b < N) : Beside pa v' := by
  intro b hb e
  rcases hat with hat | hat
  · exact h b hb (hat ▸ e)
  · have := hlt b hb
    rw [hat] at e
    injection e with e
    omega
/-- A slice of items. -/
def ItemsSl (w : World) (a : Option Addr) (l : List It) : Prop := ∀ (i : Nat) (p : It), l[i]? = some p → ∃ b off, a = some ⟨b, off, none⟩ ∧ b < w.heap.size ∧
  w.cell? ⟨b, off + i * 3, none⟩ = some (.string p.name) ∧ w.cell? ⟨b, off + i * 3 + 1, none⟩ = some (.string p.value) ∧ w.cell? ⟨b, off + i * 3 + 2, none⟩ = some (.bool p.has)
theorem ItemsSl.below {w w' : World} {a : Option Addr} {l : List It} (h : ItemsSl w a l) (hb : Below w.heap.size w w') : ItemsSl w' a l := by
  intro i p hp
  obtain ⟨b, off, e, hlt, h1, h2, h3⟩ := h i p hp
  exact ⟨b, off, e, Nat.lt_of_lt_of_le hlt hb.size, (hb.cell (p := ⟨b, off + i * 3, none⟩) hlt).trans h1, (hb.cell (p := ⟨b, off + i * 3 + 1, none⟩) hlt).trans h2, (hb.cell (p := ⟨b, off + i * 3 + 2, none⟩) hlt).trans h3⟩
/-- Own items as a slice: where they lie. -/
def ItemsOwn (w : World) (a : Option Addr) (l : List It) : Prop := ∀ (i : Nat) (p : It), l[i]? = some p → ∃ b, a = some ⟨b, 0, none⟩ ∧ b < w.heap.size ∧
  w.cell? ⟨b, i * 3, none⟩ = some (.string p.name) ∧ w.cell? ⟨b, i * 3 + 1, none⟩ = some (.string p.value) ∧ w.cell? ⟨b, i * 3 + 2, none⟩ = some (.bool p.has)
theorem ItemsOwn.below {w w' : World} {a : Option Addr} {l : List It} (h : ItemsOwn w a l) (hb : Below w.heap.size w w') : ItemsOwn w' a l := by
  intro i p hp
  obtain ⟨b, e, hlt, h1, h2, h3⟩ := h i p hp
  exact ⟨b, e, Nat.lt_of_lt_of_le hlt hb.size, (hb.cell (p := ⟨b, i * 3, none⟩) hlt).trans h1, (hb.cell (p := ⟨b, i * 3 + 1, none⟩) hlt).trans h2, (hb.cell (p := ⟨b, i * 3 + 2, none⟩) hlt).trans h3⟩
theorem ItemsOwn.items {w : World} {a : Option Addr} {l : List It} (h : ItemsOwn w a l) : ItemsSl w a l := by
  intro i p hp
  obtain ⟨b, e, hlt, h1, h2, h3⟩ := h i p hp
  exact ⟨b, 0, e, hlt, by rw [Nat.zero_add]; exact h1, by rw [Nat.zero_add]; exact h2, by rw [Nat.zero_add]; exact h3⟩
end Go.Proofs.YtbonnmkkacplgaaGreatDoor

/- Items out of parts, one behind the other, as long as nothing is wrong: plain facts. -/
namespace Go.Proofs.YtbonnmkkacplgaaGreatDoor

/-- What a part gives (are there as many items as may be?): nothing, an error's kind and place, or an item. -/
abbrev StepG := ByteArray → Bool → Option (Except (Nat × Nat) It)
structure RightG (g : StepG) : Prop where
  kind : ∀ p b k i, g p b = some (.error (k, i)) → k ≠ 0
  none : ∀ p b b', g p b = none → g p b' = none
  full : ∀ p x, g p true ≠ some (.ok x)
section
variable (g : StepG) (most : Nat)
/-- Parts' items behind those that there are, the error's kind, its place. -/
def goG : List ByteArray → Nat → List It → List It × Nat × Nat
  | [], _, acc => (acc, 0, 0)
  | p :: ps, at_, acc => match g p (decide (acc.length = most)) with
    | none => goG ps (at_ + p.size + 1) acc
    | some (.error (k, i)) => ([], k, at_ + i)
    | some (.ok x) => goG ps (at_ + p.size + 1) (acc ++ [x])
variable {g most} {p : ByteArray} {ps : List ByteArray} {at_ k i : Nat} {acc : List It} {x : It}
theorem goG_nil : goG g most [] at_ acc = (acc, 0, 0) := rfl
theorem goG_none (h : g p (decide (acc.length = most)) = none) : goG g most (p :: ps) at_ acc = goG g most ps (at_ + p.size + 1) acc := by rw [goG, h]
theorem goG_bad (h : g p (decide (acc.length = most)) = some (.error (k, i))) : goG g most (p :: ps) at_ acc = ([], k, at_ + i) := by rw [goG, h]
theorem goG_ok (h : g p (decide (acc.length = most)) = some (.ok x)) : goG g most (p :: ps) at_ acc = goG g most ps (at_ + p.size + 1) (acc ++ [x]) := by rw [goG, h]
end
/-- A part's three ways. -/
theorem goG_ways (g : StepG) (most : Nat) (p : ByteArray) (acc : List It) : g p (decide (acc.length = most)) = none ∨ (∃ k i, g p (decide (acc.length = most)) = some (.error (k, i))) ∨ ∃ x, g p (decide (acc.length = most)) = some (.ok x) := by
  cases g p (decide (acc.length = most)) with
  | none => exact .inl rfl
  | some r => cases r with
    | error e => exact .inr (.inl ⟨e.1, e.2, rfl⟩)
    | ok x => exact .inr (.inr ⟨x, rfl⟩)
section
variable {g : StepG} {most : Nat} (hg : RightG g)
include hg
theorem goG_len : ∀ (ps : List ByteArray) (at_ : Nat) (acc : List It), acc.length ≤ most → (goG g most ps at_ acc).1.length ≤ most
  | [], _, acc, h => h
  | p :: ps, at_, acc, h => by
    rcases goG_ways g most p acc with h1 | ⟨k, i, h1⟩ | ⟨x, h1⟩
    · rw [goG_none h1]; exact goG_len ps _ _ h
    · rw [goG_bad h1]; simp
    · rw [goG_ok h1]
      refine goG_len ps _ _ ?_
      have : acc.length ≠ most := fun e => by rw [decide_eq_true e] at h1; exact hg.full p x h1
      simp; omega
omit hg in
theorem goG_empty : ∀ (ps : List ByteArray) (at_ : Nat) (acc : List It), (goG g most ps at_ acc).2.1 ≠ 0 → (goG g most ps at_ acc).1 = []
  | [], _, acc, h => absurd rfl h
  | p :: ps, at_, acc, h => by
    rcases goG_ways g most p acc with h1 | ⟨k, i, h1⟩ | ⟨x, h1⟩
    · rw [goG_none h1] at h ⊢; exact goG_empty ps _ _ h
    · rw [goG_bad h1]
    · rw [goG_ok h1] at h ⊢; exact goG_empty ps _ _ h
theorem goG_zero : ∀ (ps : List ByteArray) (at_ : Nat) (acc : List It), (goG g most ps at_ acc).2.1 = 0 → (goG g most ps at_ acc).2.2 = 0
  | [], _, acc, h => rfl
  | p :: ps, at_, acc, h => by
    rcases goG_ways g most p acc with h1 | ⟨k, i, h1⟩ | ⟨x, h1⟩
    · rw [goG_none h1] at h ⊢; exact goG_zero ps _ _ h
    · rw [goG_bad h1] at h; exact absurd h (hg.kind _ _ _ _ h1)
    · rw [goG_ok h1] at h ⊢; exact goG_zero ps _ _ h
theorem goG_grow : ∀ (ps : List ByteArray) (at_ : Nat) (acc : List It), (goG g most ps at_ acc).2.1 = 0 → ∃ l, (goG g most ps at_ acc).1 = acc ++ l
  | [], _, acc, _ => ⟨[], by rw [goG_nil]; simp⟩
  | p :: ps, at_, acc, h => by
    rcases goG_ways g most p acc with h1 | ⟨k, i, h1⟩ | ⟨x, h1⟩
    · rw [goG_none h1] at h ⊢; exact goG_grow ps _ _ h
    · rw [goG_bad h1] at h; exact absurd h (hg.kind _ _ _ _ h1)
    · rw [goG_ok h1] at h ⊢
      obtain ⟨l, e⟩ := goG_grow ps _ _ h
      exact ⟨x :: l, by rw [e]; simp⟩
theorem goG_app : ∀ (ps qs : List ByteArray) (at_ : Nat) (acc : List It), goG g most (ps ++ qs) at_ acc = if (goG g most ps at_ acc).2.1 = 0 then goG g most qs (at_ + (ps.map fun p => p.size + 1).sum) (goG g most ps at_ acc).1 else goG g most ps at_ acc
  | [], qs, at_, acc => by simp [goG_nil]
  | p :: ps, qs, at_, acc => by
    rw [List.cons_append]
    have e : at_ + ((p :: ps).map fun p => p.size + 1).sum = at_ + p.size + 1 + (ps.map fun p => p.size + 1).sum := by rw [List.map_cons, List.sum_cons]; omega
    rcases goG_ways g most p acc with h1 | ⟨k, i, h1⟩ | ⟨x, h1⟩
    · rw [goG_none h1, goG_none h1, goG_app ps qs, e]
    · rw [goG_bad h1, goG_bad h1, if_neg (hg.kind _ _ _ _ h1)]
    · rw [goG_ok h1, goG_ok h1, goG_app ps qs, e]
/-- From another place, behind other items: the same items. -/
theorem goG_move : ∀ (ps : List ByteArray) (a1 a2 : Nat) (x acc : List It), (goG g most ps a1 acc).2.1 = 0 → x.length + (goG g most ps a1 acc).1.length ≤ most → goG g most ps a2 (x ++ acc) = (x ++ (goG g most ps a1 acc).1, 0, 0)
  | [], a1, a2, x, acc, _, _ => rfl
  | p :: ps, a1, a2, x, acc, h, h2 => by
    rcases goG_ways g most p acc with h1 | ⟨k, i, h1⟩ | ⟨y, h1⟩
    · rw [goG_none h1] at h h2 ⊢
      rw [goG_none (hg.none _ _ _ h1)]
      exact goG_move ps _ _ x acc h h2
    · rw [goG_bad h1] at h; exact absurd h (hg.kind _ _ _ _ h1)
    · rw [goG_ok h1] at h h2 ⊢
      obtain ⟨l, e⟩ := goG_grow hg ps _ _ h
      have hl := congrArg List.length e
      simp only [List.length_append, List.length_cons, List.length_nil] at hl
      have h3 : acc.length ≠ most := fun e => by rw [decide_eq_true e] at h1; exact hg.full p y h1
      have h4 : (x ++ acc).length ≠ most := by simp; omega
      rw [decide_eq_false h3] at h1
      have h5 : g p (decide ((x ++ acc).length = most)) = some (.ok y) := by rw [decide_eq_false h4]; exact h1
      rw [goG_ok h5, List.append_assoc]
      exact goG_move ps _ _ x (acc ++ [y]) h h2
end
/-- The parts of a text between marks. -/
def partsB (c : UInt8) (s : ByteArray) : List ByteArray := (splitL c s.data.toList).map ofL
theorem partsB_app (c : UInt8) (s t : ByteArray) : partsB c (s ++ ofL [c] ++ t) = partsB c s ++ partsB c t := by
  unfold partsB
  rw [← List.map_append, ← splitL_app c t.data.toList s.data.toList.length s.data.toList (Nat.le_refl _)]
  congr 2
  rw [ByteArray.data_append, ByteArray.data_append]
  simp [ofL]
section
variable {g : StepG} {most : Nat} (hg : RightG g)
include hg
theorem goG_both (c : UInt8) (s t : ByteArray) (h1 : (goG g most (partsB c s) 0 []).2.1 = 0) (h2 : (goG g most (partsB c t) 0 []).2.1 = 0) (h3 : (goG g most (partsB c s) 0 []).1.length + (goG g most (partsB c t) 0 []).1.length ≤ most) :
    goG g most (partsB c (s ++ ofL [c] ++ t)) 0 [] = ((goG g most (partsB c s) 0 []).1 ++ (goG g most (partsB c t) 0 []).1, 0, 0) := by
  rw [partsB_app, goG_app hg, if_pos h1]
  have := goG_move hg (partsB c t) 0 (0 + ((partsB c s).map fun p => p.size + 1).sum) (goG g most (partsB c s) 0 []).1 [] h2 h3
  rw [List.append_nil] at this
  exact this
theorem goG_first (c : UInt8) (s t : ByteArray) (h1 : (goG g most (partsB c s) 0 []).2.1 ≠ 0) : goG g most (partsB c (s ++ ofL [c] ++ t)) 0 [] = goG g most (partsB c s) 0 [] := by
  rw [partsB_app, goG_app hg, if_neg h1]
end
end Go.Proofs.YtbonnmkkacplgaaGreatDoor

/- Names that were told, in plain words. -/
namespace Go.Proofs.YtbonnmkkacplgaaGreatDoor
open Go.RowKit

theorem right_bytes {p : ByteArray} (h : (rightL p).1 = 0) : ∀ b ∈ p.data.toList, SmB b := all_sm.1 (right_inv h).2.2.1
theorem sm_dot {b : UInt8} (h : SmB b) : b ≠ 46 := by rintro rfl; exact absurd (show smallZ ((46 : UInt8).toNat : Int) = true from h) (by decide)
theorem right_ne {p : ByteArray} (h : (rightL p).1 = 0) : p.data.toList ≠ [] := by
  intro e
  have h1 := (right_inv h).2.1
  have h2 : p.data.toList.length = p.size := rfl
  rw [e] at h2
  exact h1 h2.symm
/-- A name that was told: of right labels. -/
structure GoodName (t : ByteArray) (xs : List ByteArray) : Prop where
  eq : t = joinP xs
  ne : xs ≠ []
  right : ∀ p ∈ xs, (rightL p).1 = 0
theorem nameF_right : ∀ (ps : List ByteArray) (a : Nat) (xs : List ByteArray), nameF ps a = .ok xs → xs.length = ps.length ∧ ∀ x ∈ xs, (rightL x).1 = 0 := by
  intro ps
  induction ps with
  | nil => intro a xs h; cases h; exact ⟨rfl, fun x hx => by cases hx⟩
  | cons p ps ih =>
    intro a xs h
    cases hp : asciiL p with
    | error e =>
      obtain ⟨k, i⟩ := e
      rw [nameF_err hp] at h
      cases h
    | ok x =>
      rw [nameF_ok hp] at h
      cases hr : nameF ps (a + p.size + 1) with
      | error e => rw [hr] at h; cases h
      | ok ys =>
        rw [hr] at h
        obtain rfl : x :: ys = xs := Except.ok.inj h
        obtain ⟨h1, h2⟩ := ih _ _ hr
        refine ⟨by simp [h1], fun z hz => ?_⟩
        rcases List.mem_cons.1 hz with rfl | hz
        · exact ascii_right hp
        · exact h2 z hz
theorem nameF_fix : ∀ (xs : List ByteArray) (a : Nat), (∀ p ∈ xs, (rightL p).1 = 0) → nameF xs a = .ok xs := by
  intro xs
  induction xs with
  | nil => intro a _; rfl
  | cons x xs ih =>
    intro a h
    rw [nameF_ok (ascii_fix (h x (by simp))), ih _ fun p hp => h p (by simp [hp])]
    rfl
theorem joinP_data (xs : List ByteArray) : (joinP xs).data.toList = joinA 46 (xs.map (·.data.toList)) := ofL_data _
theorem split_name {t : ByteArray} {xs : List ByteArray} (h : GoodName t xs) : splitL 46 t.data.toList = xs.map (·.data.toList) := by
  rw [h.eq, joinP_data]
  refine split_join 46 _ (by intro e; exact h.ne (List.map_eq_nil_iff.1 e)) fun p hp x hx => ?_
  obtain ⟨q, hq, rfl⟩ := List.mem_map.1 hp
  exact sm_dot (right_bytes (h.right q hq) x hx)
theorem map_back (xs : List ByteArray) : (xs.map (·.data.toList)).map ofL = xs := by
  rw [List.map_map]
  have := List.map_congr_left (l := xs) (f := ofL ∘ (·.data.toList)) (g := id) fun b _ => ofL_list b
  rw [this, List.map_id]
theorem fields_name {t : ByteArray} {xs : List ByteArray} (h : GoodName t xs) : fieldsB t = xs := by
  unfold fieldsB
  rw [fields_split, split_name h, map_back]
theorem parts_name {t : ByteArray} {xs : List ByteArray} (h : GoodName t xs) : partsB 46 t = xs := by
  unfold partsB
  rw [split_name h, map_back]
theorem joinA_two (c : UInt8) : ∀ a b : List (List UInt8), a ≠ [] → b ≠ [] → joinA c (a ++ b) = joinA c a ++ c :: joinA c b := by
  intro a
  induction a with
  | nil => intro b h _; exact absurd rfl h
  | cons p a ih =>
    intro b _ hb
    cases a with
    | nil =>
      cases b with
      | nil => exact absurd rfl hb
      | cons q r => rfl
    | cons q r =>
      show p ++ c :: joinA c ((q :: r) ++ b) = (p ++ c :: joinA c (q :: r)) ++ c :: joinA c b
      rw [ih b (by simp) hb]
      simp
theorem joinA_end (c : UInt8) : ∀ a : List (List UInt8), a ≠ [] → ∃ pre p, p ∈ a ∧ joinA c a = pre ++ p := by
  intro a
  induction a with
  | nil => intro h; exact absurd rfl h
  | cons p a ih =>
    intro _
    cases a with
    | nil => exact ⟨[], p, by simp, rfl⟩
    | cons q r =>
      obtain ⟨pre, z, hz, e⟩ := ih (by simp)
      refine ⟨p ++ c :: pre, z, by simp at hz ⊢; exact .inr hz, ?_⟩
      show p ++ c :: joinA c (q :: r) = _
      rw [e]
      simp
theorem joinA_size (c : UInt8) : ∀ a : List (List UInt8), (∀ p ∈ a, p ≠ []) → 2 * a.length ≤ (joinA c a).length + 1 := by
  intro a
  induction a with
  | nil => intro _; exact Nat.zero_le _
  | cons p a ih =>
    intro h
    have hp := List.length_pos_iff.2 (h p (by simp))
    cases a with
    | nil => show 2 * 1 ≤ p.length + 1; omega
    | cons q r =>
      have := ih fun x hx => h x (by simp [hx])
      show 2 * ((q :: r).length + 1) ≤ (p ++ c :: joinA c (q :: r)).length + 1
      have e : (p ++ c :: joinA c (q :: r)).length = p.length + ((joinA c (q :: r)).length + 1) := by rw [List.length_append]; rfl
      rw [e]
      omega
theorem name_end {t : ByteArray} {xs : List ByteArray} (h : GoodName t xs) : 0 < t.size ∧ byteAt t (t.size - 1) ≠ 46 := by
  obtain ⟨pre, p, hp, e⟩ := joinA_end 46 (xs.map (·.data.toList)) (by intro e; exact h.ne (List.map_eq_nil_iff.1 e))
  obtain ⟨q, hq, rfl⟩ := List.mem_map.1 hp
  have hr := h.right q hq
  have hne := List.length_pos_iff.2 (right_ne hr)
  have ht : t.data.toList = pre ++ q.data.toList := by rw [h.eq, joinP_data, e]
  have hz : t.data.toList.length = t.size := rfl
  have hl : t.size = pre.length + q.data.toList.length := by rw [← hz, ht, List.length_append]
  refine ⟨by omega, ?_⟩
  have hb : byteAt t (t.size - 1) ∈ q.data.toList := by
    have e2 : byteAt t (t.size - 1) = t.data.toList.getD (t.size - 1) 0 := rfl
    rw [e2, ht, hl]
    simp only [List.getD]
    rw [List.getElem?_append_right (by omega), List.getElem?_eq_getElem (by omega)]
    exact List.getElem_mem _
  exact sm_dot (right_bytes hr _ hb)
theorem cut_name {t : ByteArray} {xs : List ByteArray} (h : GoodName t xs) : cutP t = t := by
  unfold cutP
  rw [if_neg (fun hh => (name_end h).2 hh.2)]
theorem count_name {t : ByteArray} {xs : List ByteArray} (h : GoodName t xs) : 2 * xs.length ≤ t.size + 1 := by
  have := joinA_size 46 (xs.map (·.data.toList)) fun p hp => by
    obtain ⟨q, hq, rfl⟩ := List.mem_map.1 hp
    exact right_ne (h.right q hq)
  rw [List.length_map, ← joinP_data, ← h.eq] at this
  exact this
/-- A name that was told is told as itself. -/
theorem name_fix {t : ByteArray} {xs : List ByteArray} (h : GoodName t xs) (hz : t.size ≤ 253) {r : Except (Nat × Nat) ByteArray} (hr : NameIs t r) : r = .ok t := by
  have hc := cut_name h
  have hf := fields_name h
  have hn := nameF_fix xs 0 h.right
  have hl := fieldsB_len t
  rw [hf] at hl
  have hcount := count_name h
  cases hr with
  | empty h1 => rw [hc] at h1; have := (name_end h).1; omega
  | many i h1 h2 h3 h4 =>
    rw [hc] at h2 h4
    have := cutAt_mono t 46 (show i + 1 ≤ t.size from h2)
    omega
  | bad e h1 h2 h3 => rw [hc, hf, hn] at h3; cases h3
  | long ys h1 h2 h3 h4 =>
    rw [hc, hf, hn] at h3
    obtain rfl := Except.ok.inj h3
    rw [← h.eq] at h4
    omega
  | ok ys h1 h2 h3 h4 =>
    rw [hc, hf, hn] at h3
    obtain rfl := Except.ok.inj h3
    rw [← h.eq]
theorem name_good {s t : ByteArray} (h : NameIs s (.ok t)) : ∃ xs, GoodName t xs ∧ t.size ≤ 253 := by
  cases h with
  | ok xs h1 h2 h3 h4 =>
    obtain ⟨a, b⟩ := nameF_right _ _ _ h3
    refine ⟨xs, ⟨rfl, ?_, b⟩, by omega⟩
    rintro rfl
    have := fieldsB_len (cutP s)
    rw [← a] at this
    cases this
theorem join_names {x y : ByteArray} {xs ys : List ByteArray} (h1 : GoodName x xs) (h2 : GoodName y ys) : GoodName (x ++ ⟨#[46]⟩ ++ y) (xs ++ ys) := by
  refine ⟨?_, by intro e; exact h1.ne (List.append_eq_nil_iff.1 e).1, fun p hp => ?_⟩
  · apply ba_ext
    rw [joinP_data, List.map_append, joinA_two 46 _ _ (by intro e; exact h1.ne (List.map_eq_nil_iff.1 e)) (by intro e; exact h2.ne (List.map_eq_nil_iff.1 e)), data_append, data_append, ← joinP_data, ← joinP_data, ← h1.eq, ← h2.eq]
    show (x.data.toList ++ [46]) ++ y.data.toList = _
    simp
  · rcases List.mem_append.1 hp with hp | hp
    · exact h1.right p hp
    · exact h2.right p hp
end Go.Proofs.YtbonnmkkacplgaaGreatDoor
