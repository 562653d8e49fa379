/- What was encoded stands for its characters. -/
import Derived.Test.YtbonnmkkacplgaaGreatDoorLabelNamesM8
import Derived.Test.YtbonnmkkacplgaaGreatDoorLabelNamesM9

namespace Go.Proofs.YtbonnmkkacplgaaGreatDoor
open Go.RowKit

theorem valN_digN {n : Nat} (h : n < 36) : valN (digN n) = some n := by
  have : ∀ n : Fin 36, valN (digN n.1) = some n.1 := by decide +kernel
  exact this ⟨n, h⟩
theorem valN_mark : valN 45 = none := by decide
/-- Bytes from a place on that read as these digits. -/
def ReadsAs (s : ByteArray) (a : Nat) (l : List UInt8) : Prop := a + l.length ≤ s.size ∧ ∀ k, k < l.length → valN (byteAt s (a + k)) = valN (l.getD k 0)
theorem ReadsAs.head {s : ByteArray} {a : Nat} {c : UInt8} {l : List UInt8} (h : ReadsAs s a (c :: l)) : a < s.size ∧ valN (byteAt s a) = valN c ∧ ReadsAs s (a + 1) l := by
  obtain ⟨h1, h2⟩ := h
  simp only [List.length_cons] at h1 h2
  refine ⟨by omega, h2 0 (by omega), by omega, fun k hk => ?_⟩
  have := h2 (k + 1) (by omega)
  rw [show a + 1 + k = a + (k + 1) by omega]
  simpa using this
theorem weight_ok {n w t : Nat} (h1 : n * w ≤ 286326784) (ht1 : 1 ≤ t) (ht : t ≤ n) (hj : t ≤ 25 → ∃ j, w = 35 ^ j) : ¬ 2147483647 < w * (36 - t) := by
  have h2 : w * t ≤ 286326784 := Nat.le_trans (by rw [Nat.mul_comm]; exact Nat.mul_le_mul_right _ ht) h1
  by_cases h5 : 5 ≤ t
  · have a : w * 5 ≤ w * t := Nat.mul_le_mul_left _ h5
    have b : w * (36 - t) ≤ w * 31 := Nat.mul_le_mul_left _ (by omega)
    omega
  · obtain ⟨j, rfl⟩ := hj (by omega)
    have h6 : (35 : Nat) ^ 6 = 1838265625 := by decide
    have h7 : (35 : Nat) ^ 5 = 52521875 := by decide
    have hj5 : j ≤ 5 := by
      apply Nat.le_of_lt_succ
      apply (Nat.pow_lt_pow_iff_right (show 1 < 35 by decide)).1
      have hm : 35 ^ j * 1 ≤ 35 ^ j * t := Nat.mul_le_mul_left _ ht1
      rw [h6]
      generalize 35 ^ j = q at *
      omega
    have hp : 35 ^ j ≤ 35 ^ 5 := Nat.pow_le_pow_right (by decide) hj5
    have b : 35 ^ j * (36 - t) ≤ 35 ^ j * 35 := Nat.mul_le_mul_left _ (by omega)
    rw [h7] at hp
    generalize 35 ^ j = q at *
    omega
theorem rd_num (s : ByteArray) (b : Nat) : ∀ (f n k w n0 a g : Nat), ReadsAs s a (numL f n k b) → n ≤ f → (numL f n k b).length ≤ g → n0 + n * w ≤ 286326784 → (thrN k b ≤ 25 → ∃ j, w = 35 ^ j) →
    rdF s b g a n0 w k = .ok (n0 + n * w, a + (numL f n k b).length) := by
  intro f
  induction f with
  | zero =>
    intro n k w n0 a g hR hn hg hN hj
    obtain rfl : n = 0 := by omega
    have ht := thrN_range k b
    rw [numL_last (by omega)] at hR hg ⊢
    obtain ⟨g, rfl⟩ : ∃ g', g = g' + 1 := ⟨g - 1, by simp at hg; omega⟩
    obtain ⟨h1, h2, _⟩ := hR.head
    rw [valN_digN (by decide)] at h2
    rw [rd_ok h1 h2 (by omega) (by omega)]
    rfl
  | succ f ih =>
    intro n k w n0 a g hR hn hg hN hj
    have HJ := Lib.hid hj
    clear hj
    have ht := thrN_range k b
    by_cases h : n < thrN k b
    · rw [numL_last h] at hR hg ⊢
      obtain ⟨g, rfl⟩ : ∃ g', g = g' + 1 := ⟨g - 1, by simp at hg; omega⟩
      obtain ⟨h1, h2, _⟩ := hR.head
      rw [valN_digN (by omega)] at h2
      rw [rd_ok h1 h2 (by omega) h]
      rfl
    · rw [numL_more h] at hR hg ⊢
      obtain ⟨g, rfl⟩ : ∃ g', g = g' + 1 := ⟨g - 1, by simp at hg; omega⟩
      obtain ⟨h1, h2, h3⟩ := hR.head
      have hlt := num_less h
      have hml : (n - thrN k b) % (36 - thrN k b) < 36 - thrN k b := Nat.mod_lt _ (by omega)
      have hdm := Nat.mod_add_div (n - thrN k b) (36 - thrN k b)
      rw [valN_digN (by omega)] at h2
      have hW := weight_ok (n := n) (w := w) (t := thrN k b) (by omega) ht.1 (by omega) HJ.out
      have hj2 : thrN (k + 36) b ≤ 25 → ∃ j, w * (36 - thrN k b) = 35 ^ j := fun h25 => by
        have h1 : thrN k b = 1 := by unfold thrN at h25 ⊢; omega
        obtain ⟨j, rfl⟩ := HJ.out (by omega)
        exact ⟨j + 1, by rw [h1, Nat.pow_succ]⟩
      have HJ2 := Lib.hid hj2
      clear hj2
      have e : n * w = (thrN k b + (n - thrN k b) % (36 - thrN k b)) * w + (n - thrN k b) / (36 - thrN k b) * (w * (36 - thrN k b)) := by
        have e1 : n = thrN k b + (n - thrN k b) % (36 - thrN k b) + (36 - thrN k b) * ((n - thrN k b) / (36 - thrN k b)) := by
          rw [Nat.add_assoc, hdm]; omega
        calc n * w = (thrN k b + (n - thrN k b) % (36 - thrN k b) + (36 - thrN k b) * ((n - thrN k b) / (36 - thrN k b))) * w := by rw [← e1]
          _ = _ := by rw [Nat.add_mul]; congr 1; rw [Nat.mul_comm (36 - thrN k b), Nat.mul_assoc, Nat.mul_comm w]
      simp only [List.length_cons] at hg ⊢
      have := ih ((n - thrN k b) / (36 - thrN k b)) (k + 36) (w * (36 - thrN k b)) (n0 + (thrN k b + (n - thrN k b) % (36 - thrN k b)) * w) (a + 1) g h3 (by omega) (by omega) (by omega) HJ2.out
      rw [rd_next h1 h2 (by omega) (by omega) hW, this, e]
      congr 2 <;> omega
theorem numL_dig : ∀ (f n k b : Nat), n ≤ f → ∀ c ∈ numL f n k b, valN c ≠ none := by
  intro f
  induction f with
  | zero =>
    intro n k b hn c hc
    obtain rfl : n = 0 := by omega
    rw [numL_last (by have := thrN_range k b; omega)] at hc
    obtain rfl := List.mem_singleton.1 hc
    rw [valN_digN (by decide)]
    simp
  | succ f ih =>
    intro n k b hn c hc
    have ht := thrN_range k b
    by_cases h : n < thrN k b
    · rw [numL_last h] at hc
      obtain rfl := List.mem_singleton.1 hc
      rw [valN_digN (by omega)]
      simp
    · rw [numL_more h] at hc
      have hml : (n - thrN k b) % (36 - thrN k b) < 36 - thrN k b := Nat.mod_lt _ (by omega)
      rcases List.mem_cons.1 hc with rfl | hc
      · rw [valN_digN (by omega)]; simp
      · exact ih _ _ _ (by have := num_less h; omega) c hc
/-! ### Nothing is taken back -/
def More (u v : PSt) : Prop := ∃ r : List UInt8, v.out = u.out ++ r ∧ ∀ c ∈ r, valN c ≠ none
theorem More.refl (u : PSt) : More u u := ⟨[], by simp, fun _ h => by cases h⟩
theorem More.trans {u v x : PSt} (h : More u v) (h2 : More v x) : More u x := by
  obtain ⟨r, e, a⟩ := h
  obtain ⟨r2, e2, a2⟩ := h2
  refine ⟨r ++ r2, by rw [e2, e, List.append_assoc], fun c hc => ?_⟩
  rcases List.mem_append.1 hc with h | h
  · exact a c h
  · exact a2 c h
theorem step_more (m basic : Nat) (u : PSt) (c : Nat) : More u (stepC m basic u c) := by
  unfold stepC
  split
  · exact ⟨[], by simp, fun _ h => by cases h⟩
  · split
    · exact ⟨numD u.delta u.bias, rfl, numL_dig _ _ _ _ (Nat.le_refl _)⟩
    · exact More.refl u
theorem fold_more (m basic : Nat) : ∀ (l : List Nat) (u : PSt), More u (l.foldl (stepC m basic) u) := by
  intro l
  induction l with
  | nil => intro u; exact More.refl u
  | cons c l ih => intro u; exact (step_more m basic u c).trans (ih _)
theorem enc_more (cs : List Nat) (basic : Nat) : ∀ (ms : List Nat) (n : Nat) (u : PSt), More u (encR cs basic ms n u) := by
  intro ms
  induction ms with
  | nil => intro n u; exact More.refl u
  | cons m ms ih =>
    intro n u
    have h1 : More u (roundC cs basic m n u) := (show More u ⟨u.delta + (m - n) * (u.h + 1), u.bias, u.h, u.out⟩ from ⟨[], by simp, fun _ h => by cases h⟩).trans (fold_more m basic cs _)
    exact (h1.trans (show More (roundC cs basic m n u) (nextC (roundC cs basic m n u)) from ⟨[], by simp [nextC], fun _ h => by cases h⟩)).trans (ih _ _)
/-! ### The reading goes along -/
structure Along (basic m pos : Nat) (u : PSt) (d : DSt) : Prop where
  a : d.a = u.out.length
  bias : d.bias = u.bias
  first : d.first = decide (u.h = basic)
  base : basic ≤ u.h
  len : u.h = d.out.length
  bal : d.n * (u.h + 1) + d.place + u.delta = m * (u.h + 1) + pos
  le : d.n ≤ m
def upto (m : Nat) (l : List Nat) : List Nat := l.filter fun c => decide (c ≤ m)
def till (m : Nat) (l : List Nat) : List Nat := l.filter fun c => decide (c < m)
theorem upto_le (m : Nat) (l : List Nat) : (upto m l).length ≤ l.length := List.length_filter_le _ _
theorem till_le (m : Nat) (l : List Nat) : (till m l).length ≤ l.length := List.length_filter_le _ _
theorem upto_one (m c : Nat) (l : List Nat) : upto m (l ++ [c]) = upto m l ++ (if c ≤ m then [c] else []) := by
  unfold upto
  rw [List.filter_append]
  congr 1
  by_cases h : c ≤ m <;> simp [h]
theorem till_cons (m c : Nat) (l : List Nat) : till m (c :: l) = if c < m then c :: till m l else till m l := by
  unfold till
  by_cases h : c < m <;> simp [h]
section
variable {s : ByteArray} {basic P : Nat} {fin : List UInt8}
theorem reads_at {o l : List UInt8} (hs : s.size = fin.length) (hv : ∀ k, P ≤ k → k < fin.length → valN (byteAt s k) = valN (fin.getD k 0)) (hp : ∃ r, fin = o ++ l ++ r) (hP : P ≤ o.length) : ReadsAs s o.length l := by
  obtain ⟨r, rfl⟩ := hp
  refine ⟨by rw [hs]; simp only [List.length_append]; omega, fun k hk => ?_⟩
  rw [hv (o.length + k) (by omega) (by simp only [List.length_append]; omega)]
  congr 1
  simp only [List.getD]
  rw [List.append_assoc, List.getElem?_append_right (by omega), Nat.add_sub_cancel_left, List.getElem?_append_left hk]
theorem dec_round (hs : s.size = fin.length) (hv : ∀ k, P ≤ k → k < fin.length → valN (byteAt s k) = valN (fin.getD k 0)) (m : Nat) (hm : rightB (m : Int) = true) (hm2 : m ≤ 1114111) :
    ∀ (suf pre : List Nat) (u : PSt) (d : DSt) (f : Nat), (pre ++ suf).length ≤ 256 → Along basic m (upto m pre).length u d → d.out = upto m pre ++ till m suf → P ≤ u.out.length →
      (∃ r, fin = (suf.foldl (stepC m basic) u).out ++ r) → s.size ≤ d.a + f →
      ∃ d' f', decF s f d = decF s f' d' ∧ Along basic m (upto m (pre ++ suf)).length (suf.foldl (stepC m basic) u) d' ∧ d'.out = upto m (pre ++ suf) ∧ s.size ≤ d'.a + f' := by
  intro suf
  induction suf with
  | nil =>
    intro pre u d f _ hA ho _ _ hf
    refine ⟨d, f, rfl, by rw [List.append_nil]; exact hA, ?_, hf⟩
    rw [ho, List.append_nil]
    show upto m pre ++ [] = _
    rw [List.append_nil]
  | cons c suf ih =>
    intro pre u d f hl hA ho hP hfin hf
    have hpre : pre ++ c :: suf = (pre ++ [c]) ++ suf := by simp
    rw [hpre] at hl ⊢
    rw [List.foldl_cons] at hfin ⊢
    rw [till_cons] at ho
    have hu1 := upto_one m c pre
    by_cases h1 : c < m
    · have hst : stepC m basic u c = ⟨u.delta + 1, u.bias, u.h, u.out⟩ := by unfold stepC; rw [if_pos h1]
      rw [if_pos h1] at ho
      rw [if_pos (by omega)] at hu1
      rw [hst] at hfin ⊢
      refine ih (pre ++ [c]) _ d f hl ⟨hA.a, hA.bias, hA.first, hA.base, hA.len, ?_, hA.le⟩ ?_ hP hfin hf
      · have := hA.bal
        rw [hu1, List.length_append]
        simp only [List.length_singleton]
        omega
      · rw [ho, hu1]; simp
    · rw [if_neg h1] at ho
      by_cases h2 : c = m
      · subst h2
        rw [if_pos (Nat.le_refl _)] at hu1
        have hst : stepC c basic u c = ⟨0, adaptN u.delta (u.h + 1) (decide (u.h = basic)), u.h + 1, u.out ++ numD u.delta u.bias⟩ := by unfold stepC; rw [if_neg h1, if_pos rfl]
        rw [hst] at hfin ⊢
        obtain ⟨r1, e1, _⟩ := fold_more c basic suf ⟨0, adaptN u.delta (u.h + 1) (decide (u.h = basic)), u.h + 1, u.out ++ numD u.delta u.bias⟩
        have hR := reads_at (o := u.out) (l := numD u.delta u.bias) hs hv (by obtain ⟨r, hr⟩ := hfin; exact ⟨r1 ++ r, by rw [hr, e1]; simp⟩) hP
        have hul := upto_le c pre
        have htl := till_le c suf
        have hol : d.out.length = (upto c pre).length + (till c suf).length := by rw [ho, List.length_append]
        have hl' := hl
        simp only [List.length_append, List.length_singleton] at hl
        have hhl := hA.len
        have hbal := hA.bal
        have hle := hA.le
        have hsub : d.n * (u.h + 1) + (c - d.n) * (u.h + 1) = c * (u.h + 1) := by rw [← Nat.add_mul, show d.n + (c - d.n) = c by omega]
        have hpd : d.place + u.delta = (upto c pre).length + (u.h + 1) * (c - d.n) := by rw [Nat.mul_comm (u.h + 1)]; omega
        have hdel : u.delta ≤ 286326784 := by
          have : (u.h + 1) * (c - d.n) ≤ 256 * 1114111 := Nat.mul_le_mul (by omega) (by omega)
          omega
        have hmod : (d.place + u.delta) % (u.h + 1) = (upto c pre).length := by rw [hpd, Nat.add_mul_mod_self_left, Nat.mod_eq_of_lt (by omega)]
        have hdiv : d.n + (d.place + u.delta) / (u.h + 1) = c := by rw [hpd, Nat.add_mul_div_left _ _ (by omega), Nat.div_eq_of_lt (by omega)]; omega
        have hlen1 : 1 ≤ (numD u.delta u.bias).length := by
          unfold numD
          cases u.delta with
          | zero => simp [numL]
          | succ x => unfold numL; split <;> simp
        have hsz := hR.1
        have hrd : rdN s d.a d.bias = .ok (u.delta, u.out.length + (numD u.delta u.bias).length) := by
          rw [hA.a, hA.bias]
          have := rd_num s u.bias u.delta u.delta 36 1 0 u.out.length (s.size - u.out.length) hR (Nat.le_refl _) (by show (numD u.delta u.bias).length ≤ _; omega) (by omega) (fun _ => ⟨0, rfl⟩)
          rw [Nat.mul_one, Nat.zero_add] at this
          exact this
        have hda := hA.a
        obtain ⟨f', rfl⟩ : ∃ f', f = f' + 1 := ⟨f - 1, by omega⟩
        have hn := dec_next (f := f') (show d.a < s.size by omega) hrd (by rw [← hhl, hdiv]; exact hm) (by omega)
        rw [← hhl, hdiv, hmod] at hn
        have hins : insL d.out (upto c pre).length c = upto c (pre ++ [c]) ++ till c suf := by
          unfold insL
          rw [ho, hu1]
          simp
        rw [hn]
        refine ih (pre ++ [c]) _ _ f' hl' ⟨by simp, ?_, ?_, Nat.le_trans hA.base (Nat.le_succ _), ?_, ?_, Nat.le_refl _⟩ hins (by simp only [List.length_append]; omega) hfin (by dsimp only; omega)
        · dsimp only
          rw [hA.first]
        · dsimp only
          rw [decide_eq_false]
          have := hA.base
          omega
        · dsimp only
          rw [hins, List.length_append, hu1, List.length_append]
          simp only [List.length_singleton]
          omega
        · dsimp only
          rw [hu1, List.length_append]
          simp only [List.length_singleton]
          omega
      · have hst : stepC m basic u c = u := by unfold stepC; rw [if_neg h1, if_neg h2]
        rw [if_neg (by omega), List.append_nil] at hu1
        rw [hst] at hfin ⊢
        refine ih (pre ++ [c]) _ d f hl (by rw [hu1]; exact hA) (by rw [hu1]; exact ho) hP hfin hf
theorem dec_all (cs : List Nat) (hr : ∀ c ∈ cs, rightB (c : Int) = true) (hl : cs.length ≤ 256) (hs : s.size = fin.length) (hv : ∀ k, P ≤ k → k < fin.length → valN (byteAt s k) = valN (fin.getD k 0)) :
    ∀ (ms : List Nat) (n : Nat) (u : PSt) (d : DSt) (f : Nat), ms.Pairwise (· < ·) → (∀ x, x ∈ ms ↔ x ∈ cs ∧ n ≤ x) → Along basic n 0 u d → d.out = till n cs → P ≤ u.out.length →
      (encR cs basic ms n u).out = fin → s.size ≤ d.a + f → decF s f d = .ok cs := by
  intro ms
  induction ms with
  | nil =>
    intro n u d f _ hmem hA ho _ hfin hf
    have : till n cs = cs := by
      unfold till
      rw [List.filter_eq_self]
      intro x hx
      by_cases h : n ≤ x
      · exact absurd ((hmem x).2 ⟨hx, h⟩) (by simp)
      · simp; omega
    have he : u.out = fin := hfin
    rw [dec_end (by rw [hs, hA.a, he]; exact Nat.le_refl _), ho, this]
  | cons m ms ih =>
    intro n u d f hp hmem hA ho hP hfin hf
    have hp' := List.pairwise_cons.1 hp
    obtain ⟨hmc, hnm⟩ := (hmem m).1 (by simp)
    have hrm := hr m hmc
    obtain ⟨m', hm', _, hm2⟩ := right_nat hrm
    obtain rfl : m = m' := by omega
    have htill : till n cs = till m cs := by
      unfold till
      apply List.filter_congr
      intro x hx
      have : x < n ↔ x < m := by
        constructor
        · omega
        · intro h
          apply Nat.lt_of_not_le
          intro h2
          rcases List.mem_cons.1 ((hmem x).2 ⟨hx, h2⟩) with e | e
          · omega
          · have := hp'.1 x e; omega
      exact decide_eq_decide.2 this
    have hA1 : Along basic m 0 ⟨u.delta + (m - n) * (u.h + 1), u.bias, u.h, u.out⟩ d := by
      refine ⟨hA.a, hA.bias, hA.first, hA.base, hA.len, ?_, Nat.le_trans hA.le hnm⟩
      have h1 := hA.bal
      have h2 : n * (u.h + 1) + (m - n) * (u.h + 1) = m * (u.h + 1) := by rw [← Nat.add_mul, show n + (m - n) = m by omega]
      dsimp only
      omega
    obtain ⟨r2, e2, _⟩ := enc_more cs basic ms (m + 1) (nextC (roundC cs basic m n u))
    obtain ⟨d', f', h1, h2, h3, h4⟩ := dec_round (P := P) hs hv m hrm hm2 cs [] _ d f (by simpa using hl) hA1 (by rw [ho, htill]; rfl) hP ⟨r2, by rw [← hfin]; exact e2⟩ hf
    rw [h1]
    rw [List.nil_append] at h2 h3
    obtain ⟨r3, e3, _⟩ := fold_more m basic cs ⟨u.delta + (m - n) * (u.h + 1), u.bias, u.h, u.out⟩
    refine ih (m + 1) (nextC (roundC cs basic m n u)) d' f' hp'.2 (fun x => ?_) ⟨h2.a, h2.bias, h2.first, h2.base, h2.len, ?_, Nat.le_succ_of_le h2.le⟩ ?_ ?_ hfin h4
    · constructor
      · intro hx
        exact ⟨((hmem x).1 (by simp [hx])).1, by have := hp'.1 x hx; omega⟩
      · rintro ⟨hx, h⟩
        rcases List.mem_cons.1 ((hmem x).2 ⟨hx, by omega⟩) with e | e
        · omega
        · exact e
    · have hb := h2.bal
      have hln := h2.len
      rw [h3] at hln
      show d'.n * ((roundC cs basic m n u).h + 1) + d'.place + ((roundC cs basic m n u).delta + 1) = (m + 1) * ((roundC cs basic m n u).h + 1) + 0
      have hx : (m + 1) * ((roundC cs basic m n u).h + 1) = m * ((roundC cs basic m n u).h + 1) + ((roundC cs basic m n u).h + 1) := Nat.succ_mul _ _
      have hb2 : d'.n * ((roundC cs basic m n u).h + 1) + d'.place + (roundC cs basic m n u).delta = m * ((roundC cs basic m n u).h + 1) + (upto m cs).length := hb
      have hl2 : (roundC cs basic m n u).h = (upto m cs).length := hln
      omega
    · rw [h3]
      unfold upto till
      apply List.filter_congr
      intro x _
      exact decide_eq_decide.2 (by omega)
    · show P ≤ (roundC cs basic m n u).out.length
      have : (roundC cs basic m n u).out = u.out ++ r3 := e3
      rw [this, List.length_append]
      omega
end
/-! ### The marked head -/
theorem lastK_eq {s : ByteArray} {b : Nat} (h : byteAt s b = 45) : ∀ n, b < n → (∀ k, b < k → k < n → byteAt s k ≠ 45) → lastK s n = b := by
  intro n
  induction n with
  | zero => intro h; omega
  | succ n ih =>
    intro hb hk
    by_cases e : b = n
    · subst e; rw [lastK, if_pos h]
    · rw [lastK, if_neg (hk n (by omega) (by omega)), ih (by omega) fun k h1 h2 => hk k h1 (by omega)]
theorem lastK_none {s : ByteArray} : ∀ n, (∀ k, k < n → byteAt s k ≠ 45) → lastK s n = 0 := by
  intro n
  induction n with
  | zero => intro _; rfl
  | succ n ih =>
    intro hk
    rw [lastK, if_neg (hk n (by omega)), ih fun k h => hk k (by omega)]
theorem high_none {s : ByteArray} : ∀ r k, (∀ j, j < r → (byteAt s (k + j)).toNat < 128) → highF s r k = none := by
  intro r
  induction r with
  | zero => intro k _; rfl
  | succ r ih =>
    intro k h
    rw [high_next (by have := h 0 (by omega); rw [Nat.add_zero] at this; omega)]
    refine ih (k + 1) fun j hj => ?_
    have := h (j + 1) (by omega)
    rwa [show k + (j + 1) = k + 1 + j by omega] at this
theorem basicL_at (cs : List Nat) (k : Nat) (h : k < (basicL cs).length) : ((basicL cs).getD k 0).toNat = (till 128 cs).getD k 0 ∧ ((basicL cs).getD k 0).toNat < 128 := by
  have e : basicL cs = (till 128 cs).map UInt8.ofNat := rfl
  rw [e] at h ⊢
  rw [List.length_map] at h
  simp only [List.getD, List.getElem?_map, List.getElem?_eq_getElem h, Option.map_some, Option.getD_some]
  have hm : (till 128 cs)[k] < 128 := by
    exact of_decide_eq_true (List.mem_filter.1 (List.getElem_mem h)).2
  rw [UInt8.toNat_ofNat_of_lt' (show (till 128 cs)[k] < 256 by omega)]
  exact ⟨rfl, hm⟩
/-- Bytes that read as what was encoded stand for its characters. -/
theorem dec_enc (cs : List Nat) (hr : ∀ c ∈ cs, rightB (c : Int) = true) (hl : cs.length ≤ 256) (s : ByteArray) (hs : s.size = (encN cs).length) (h1024 : s.size ≤ 1024)
    (hv : ∀ k, (basicO cs).length ≤ k → k < (encN cs).length → valN (byteAt s k) = valN ((encN cs).getD k 0)) (hb : ∀ k, k < (basicO cs).length → byteAt s k = (basicO cs).getD k 0) : decE s = .ok cs := by
  obtain ⟨r, er, hrd⟩ := enc_more cs (basicL cs).length (markL cs) 128 ⟨0, 72, (basicL cs).length, basicO cs⟩
  have er' : encN cs = basicO cs ++ r := er
  have hdig : ∀ k, (basicO cs).length ≤ k → k < s.size → byteAt s k ≠ 45 := fun k h1 h2 e => by
    have h3 := hv k h1 (by omega)
    rw [e, valN_mark] at h3
    have hk : k - (basicO cs).length < r.length := by rw [hs, er', List.length_append] at h2; omega
    have h4 : (encN cs).getD k 0 = r[k - (basicO cs).length] := by
      rw [er']
      simp only [List.getD]
      rw [List.getElem?_append_right h1, List.getElem?_eq_getElem hk]
      rfl
    rw [h4] at h3
    exact hrd _ (List.getElem_mem hk) h3.symm
  have htl : (till 128 cs).length = (basicL cs).length := by unfold basicL till; rw [List.length_map]
  have hb256 : (basicL cs).length ≤ 256 := by rw [← htl]; exact Nat.le_trans (till_le _ _) hl
  have hbl : ∀ k, k < (basicL cs).length → byteAt s k = (basicL cs).getD k 0 := fun k hk => by
    have hO : basicO cs = basicL cs ++ [45] := by unfold basicO; rw [if_neg (by omega)]
    rw [hb k (by rw [hO]; simp; omega), hO]
    simp only [List.getD]
    rw [List.getElem?_append_left hk]
  have hhead : headN s (basicL cs).length = till 128 cs := by
    apply List.ext_getElem
    · rw [headN_len, htl]
    · intro k h1 h2
      rw [headN_len] at h1
      have := (basicL_at cs k h1).1
      rw [← hbl k h1] at this
      have hx : (headN s (basicL cs).length)[k]'(by rw [headN_len]; exact h1) = (byteAt s k).toNat := by simp [headN]
      rw [hx, this]
      simp [List.getD, h2]
  have hlast : lastK s s.size = (basicL cs).length := by
    by_cases h0 : (basicL cs).length = 0
    · have hO : basicO cs = [] := by unfold basicO; rw [if_pos h0]
      rw [h0]
      refine lastK_none _ fun k hk => hdig k (by rw [hO]; exact Nat.zero_le _) hk
    · have hO : basicO cs = basicL cs ++ [45] := by unfold basicO; rw [if_neg h0]
      have hOl : (basicO cs).length = (basicL cs).length + 1 := by rw [hO]; simp
      refine lastK_eq ?_ _ (by rw [hs, er', List.length_append]; omega) fun k h1 h2 => hdig k (by omega) h2
      rw [hb _ (by omega), hO]
      simp [List.getD]
  have hA : (if 0 < (basicL cs).length then (basicL cs).length + 1 else 0) = (basicO cs).length := by
    unfold basicO
    by_cases h0 : (basicL cs).length = 0
    · rw [if_pos h0, if_neg (by omega)]; rfl
    · rw [if_neg h0, if_pos (by omega)]; simp
  rw [decE_low (by omega) (by rw [hlast]; exact high_none _ _ fun j hj => by rw [Nat.zero_add, hbl j hj]; exact (basicL_at cs j hj).2), hlast, dec_short (by omega), hA, hhead]
  refine dec_all (P := (basicO cs).length) (basic := (basicL cs).length) (fin := encN cs) cs hr hl hs hv (markL cs) 128 ⟨0, 72, (basicL cs).length, basicO cs⟩ _ s.size (markL_up cs) (markL_mem cs) ⟨rfl, rfl, by simp, Nat.le_refl _, htl.symm, by simp, Nat.le_refl _⟩ rfl (Nat.le_refl _) rfl (by dsimp only; omega)
/-- What was encoded stands for its characters. -/
theorem dec_encN (cs : List Nat) (hr : ∀ c ∈ cs, rightB (c : Int) = true) (hl : cs.length ≤ 256) (h1024 : (encN cs).length ≤ 1024) : decE ⟨(encN cs).toArray⟩ = .ok cs := by
  have hsz : (⟨(encN cs).toArray⟩ : ByteArray).size = (encN cs).length := by show (encN cs).toArray.size = _; simp
  obtain ⟨r, er, _⟩ := enc_more cs (basicL cs).length (markL cs) 128 ⟨0, 72, (basicL cs).length, basicO cs⟩
  have er' : encN cs = basicO cs ++ r := er
  have hby : ∀ k, byteAt ⟨(encN cs).toArray⟩ k = (encN cs).getD k 0 := fun k => by simp [byteAt]
  refine dec_enc cs hr hl _ hsz (by omega) (fun k _ _ => by rw [hby]) fun k hk => ?_
  rw [hby, er']
  simp only [List.getD]
  rw [List.getElem?_append_left hk]
end Go.Proofs.YtbonnmkkacplgaaGreatDoor
