/- Plain: an address's text, and what it is read as. -/
import Derived.Test.YtpaeloadmjblpaaDoorQuadOne
import Derived.Test.YtpaeloadmjblpaaDoorQuadNumeric
import Derived.Test.YtpaeloadmjblpaaDoorJoinPlain
import Derived.Test.YtpaeloadmjblpaaDoorWritten
namespace Go.Proofs.YtpaeloadmjblpaaDoor

/-- A byte's digits. -/
def decS (x : Nat) : ByteArray := ⟨(writ 10 x 1).toArray⟩
def decOk (x : Nat) : Bool := badQ (decS x) == none && numQ (decS x) == x && !hasB (decS x) 46 && decide ((decS x).size ≤ 3) && decide (1 ≤ (decS x).size) && !hexedB (decS x) && allB (decS x) decQ
theorem decOk_all : ∀ x : Fin 256, decOk x.1 = true := by decide +kernel
theorem dec_facts {x : Nat} (h : x < 256) : badQ (decS x) = none ∧ numQ (decS x) = x ∧ hasB (decS x) 46 = false ∧ (decS x).size ≤ 3 ∧ 1 ≤ (decS x).size ∧ hexedB (decS x) = false ∧ allB (decS x) decQ = true := by
  have := decOk_all ⟨x, h⟩
  unfold decOk at this
  simp only [Bool.and_eq_true, Bool.not_eq_true', decide_eq_true_eq, beq_iff_eq] at this
  obtain ⟨⟨⟨⟨⟨⟨a, b⟩, c⟩, d⟩, e⟩, f⟩, g⟩ := this
  exact ⟨a, b, c, d, e, f, g⟩
def partsT (a b c d : Nat) : List ByteArray := [decS a, decS b, decS c, decS d]
def textT (a b c d : Nat) : ByteArray := joinTo (partsT a b c d) 46 4
def textN (n : Nat) : ByteArray := textT (n / 16777216 % 256) (n / 65536 % 256) (n / 256 % 256) (n % 256)
theorem at_right {x y : ByteArray} {j : Nat} (h : x.size ≤ j) : byteAt (x ++ y) j = byteAt y (j - x.size) := by
  have hx : x.data.toList.length = x.size := rfl
  unfold byteAt
  rw [data_append, List.getD, List.getD, List.getElem?_append_right (by omega), hx]
theorem at_left {x y : ByteArray} {j : Nat} (h : j < x.size) : byteAt (x ++ y) j = byteAt x j := by
  have hx : x.data.toList.length = x.size := rfl
  unfold byteAt
  rw [data_append, List.getD, List.getD, List.getElem?_append_left (by omega)]
theorem has_false {y : ByteArray} {c : UInt8} (h : hasB y c = false) {j : Nat} (hj : j < y.size) : byteAt y j ≠ c := fun e => by rw [hasB_yes hj e] at h; cases h
/-- Behind the last mark. -/
theorem last_of {x y : ByteArray} (h : hasB y 46 = false) : ∀ j, j ≤ y.size → lastTo (x ++ ⟨#[46]⟩ ++ y) (x.size + 1 + j) = x.size + 1 := by
  have hs : (x ++ (⟨#[46]⟩ : ByteArray)).size = x.size + 1 := by rw [ByteArray.size_append]; rfl
  intro j
  induction j with
  | zero =>
    intro _
    refine lastTo_yes ?_
    rw [at_left (by omega), at_right (Nat.le_refl _), Nat.sub_self]
    rfl
  | succ j ih =>
    intro hj
    have hne : ¬ byteAt (x ++ ⟨#[46]⟩ ++ y) (x.size + 1 + j) = 46 := by
      rw [at_right (by omega), hs, show x.size + 1 + j - (x.size + 1) = j by omega]
      exact has_false h (by omega)
    rw [show x.size + 1 + (j + 1) = (x.size + 1 + j) + 1 by omega, lastTo_no hne]
    exact ih (by omega)
section
variable {a b c d : Nat} (ha : a < 256) (hb : b < 256) (hc : c < 256) (hd : d < 256)
include ha hb hc hd
theorem parts_free : ∀ j, j < 4 → hasB ((partsT a b c d).getD j ByteArray.empty) 46 = false := by
  intro j hj
  have : j = 0 ∨ j = 1 ∨ j = 2 ∨ j = 3 := by omega
  rcases this with rfl | rfl | rfl | rfl
  · exact (dec_facts ha).2.2.1
  · exact (dec_facts hb).2.2.1
  · exact (dec_facts hc).2.2.1
  · exact (dec_facts hd).2.2.1
theorem text_form : ∃ x : ByteArray, textT a b c d = x ++ ⟨#[46]⟩ ++ decS d ∧ x.size ≤ 11 := by
  have _hd := hd
  refine ⟨joinTo (partsT a b c d) 46 3, ?_, ?_⟩
  · unfold textT
    rw [joinTo_more _ _ 3 (by omega)]
    rfl
  · rw [joinTo_more _ _ 2 (by omega), joinTo_more _ _ 1 (by omega), joinTo_one]
    have h1 := (dec_facts ha).2.2.2.1
    have h2 := (dec_facts hb).2.2.2.1
    have h3 := (dec_facts hc).2.2.2.1
    simp only [ByteArray.size_append]
    show 0 + (decS a).size + 1 + (decS b).size + 1 + (decS c).size ≤ 11
    omega
theorem text_size : (textT a b c d).size ≤ 15 := by
  obtain ⟨x, h, h1⟩ := text_form ha hb hc hd
  have h2 := (dec_facts hd).2.2.2.1
  rw [h, ByteArray.size_append, ByteArray.size_append]
  show x.size + 1 + _ ≤ 15
  omega
theorem text_cut : cutP (textT a b c d) = textT a b c d := by
  obtain ⟨x, h, _⟩ := text_form ha hb hc hd
  obtain ⟨_, _, h3, _, h5, _⟩ := dec_facts hd
  have hs : (x ++ (⟨#[46]⟩ : ByteArray)).size = x.size + 1 := by rw [ByteArray.size_append]; rfl
  have hs2 : (textT a b c d).size = x.size + 1 + (decS d).size := by rw [h, ByteArray.size_append, hs]
  unfold cutP
  rw [if_neg]
  rintro ⟨_, h2⟩
  rw [hs2, h, at_right (by omega), hs, show x.size + 1 + (decS d).size - 1 - (x.size + 1) = (decS d).size - 1 by omega] at h2
  exact has_false h3 (by omega) h2
theorem text_fields : fieldsB (textT a b c d) 46 = partsT a b c d ∧ overB (textT a b c d) 46 4 = none := by
  obtain ⟨h1, h2⟩ := joined_parts (partsT a b c d) 46 4 rfl (by omega) (parts_free ha hb hc hd)
  exact ⟨h1, over_none (t := joinTo (partsT a b c d) 46 4) (by rw [h2]; omega)⟩
theorem parse_text : parseQ (textT a b c d) = (((a * 256 + b) * 256 + c) * 256 + d, 0, 0) := by
  obtain ⟨hf, ho⟩ := text_fields ha hb hc hd
  have hcut := text_cut ha hb hc hd
  obtain ⟨a1, a2, _⟩ := dec_facts ha
  obtain ⟨b1, b2, _⟩ := dec_facts hb
  obtain ⟨c1, c2, _⟩ := dec_facts hc
  obtain ⟨d1, d2, _⟩ := dec_facts hd
  have l0 : limQ 0 4 = 255 := by decide
  have l1 : limQ 1 4 = 255 := by decide
  have l2 : limQ 2 4 = 255 := by decide
  have l3 : limQ 3 4 = 255 := by decide
  have w0 : wtQ 0 4 = 16777216 := by decide
  have w1 : wtQ 1 4 = 65536 := by decide
  have w2 : wtQ 2 4 = 256 := by decide
  have w3 : wtQ 3 4 = 1 := by decide
  have hk : checkQ (partsT a b c d) 0 = none := by
    unfold partsT
    rw [check_yes a1, check_yes b1, check_yes c1, check_yes d1, checkQ]
  have s3 : ∀ x t, sumQ 4 [decS d] 3 x t = (t + d, none) := fun x t => by rw [sum_yes (by rw [l3, d2]; omega), d2, w3, sumQ, Nat.mul_one]
  have s2 : ∀ x t, sumQ 4 [decS c, decS d] 2 x t = (t + c * 256 + d, none) := fun x t => by rw [sum_yes (by rw [l2, c2]; omega), c2, w2]; exact s3 _ _
  have s1 : ∀ x t, sumQ 4 [decS b, decS c, decS d] 1 x t = (t + b * 65536 + c * 256 + d, none) := fun x t => by rw [sum_yes (by rw [l1, b2]; omega), b2, w1]; exact s2 _ _
  have s0 : ∀ x t, sumQ 4 [decS a, decS b, decS c, decS d] 0 x t = (t + a * 16777216 + b * 65536 + c * 256 + d, none) := fun x t => by rw [sum_yes (by rw [l0, a2]; omega), a2, w0]; exact s1 _ _
  have e : 0 + a * 16777216 + b * 65536 + c * 256 + d = ((a * 256 + b) * 256 + c) * 256 + d := by omega
  have hs : sumQ 4 (partsT a b c d) 0 0 0 = (((a * 256 + b) * 256 + c) * 256 + d, none) := by
    rw [← e]; exact s0 0 0
  refine parse_good (by rw [hcut]; exact ho) ?_ ?_
  · rw [hcut, hf]; exact hk
  · rw [hcut, hf]; exact hs
theorem numeric_text : numericB (textT a b c d) = true := by
  obtain ⟨x, h, _⟩ := text_form ha hb hc hd
  obtain ⟨_, _, h3, _, h5, h6, h7⟩ := dec_facts hd
  have hs : (x ++ (⟨#[46]⟩ : ByteArray)).size = x.size + 1 := by rw [ByteArray.size_append]; rfl
  have hs2 : (textT a b c d).size = x.size + 1 + (decS d).size := by rw [h, ByteArray.size_append, hs]
  have hl : lastS (textT a b c d) = decS d := by
    unfold lastS
    have := last_of (x := x) h3 (decS d).size (Nat.le_refl _)
    rw [hs2, h, this]
    apply ByteArray.ext
    apply Array.ext'
    rw [Lib.extract_data, data_append]
    have hxl : (x ++ (⟨#[46]⟩ : ByteArray)).data.toList.length = x.size + 1 := hs
    have hdl : (decS d).data.toList.length = (decS d).size := rfl
    rw [List.drop_append_of_le_length (by omega), List.drop_of_length_le (by omega), List.nil_append, List.take_of_length_le (by omega)]
  unfold numericB
  rw [text_cut ha hb hc hd, hl, if_neg (by simp [h6]), decide_eq_false (by omega), h7]
  rfl
end
theorem textN_of {a b c d : Nat} (ha : a < 256) (hb : b < 256) (hc : c < 256) (hd : d < 256) : textN (((a * 256 + b) * 256 + c) * 256 + d) = textT a b c d := by
  unfold textN
  rw [show (((a * 256 + b) * 256 + c) * 256 + d) / 16777216 % 256 = a by omega, show (((a * 256 + b) * 256 + c) * 256 + d) / 65536 % 256 = b by omega, show (((a * 256 + b) * 256 + c) * 256 + d) / 256 % 256 = c by omega, show (((a * 256 + b) * 256 + c) * 256 + d) % 256 = d by omega]
end Go.Proofs.YtpaeloadmjblpaaDoor
