/- Plain: an address's text, and what it is read as. -/
import Derived.Test.YtameipbnobaoeaaDoorHexadMappedM5
import Derived.Test.YtameipbnobaoeaaDoorHexadMappedM6
import Derived.Test.YtameipbnobaoeaaDoorHexadMappedM2
import Derived.Test.YtameipbnobaoeaaDoorHexadMappedM1
import Derived.Handy
import Derived.Test.YtameipbnobaoeaaDoorHexadMappedM3

namespace Go.Proofs.YtameipbnobaoeaaDoor

/-- A byte's digits. -/
def decS (x : Nat) : ByteArray := ⟨(writ 10 x 1).toArray⟩
def decOk (x : Nat) : Bool := badQ (decS x) == none && numQ (decS x) == x && !hasB (decS x) 46 && decide ((decS x).size ≤ 3) && decide (1 ≤ (decS x).size) && !hexedB (decS x) && allB (decS x) decQ
theorem decOk_all : ∀ x : Fin 256, decOk x.1 = true := by decide +kernel
theorem dec_facts {x : Nat} (h : x < 256) : badQ (decS x) = none ∧ numQ (decS x) = x ∧ hasB (decS x) 46 = false ∧ (decS x).size ≤ 3 ∧ 1 ≤ (decS x).size ∧ hexedB (decS x) = false ∧ allB (decS x) decQ = true := by
  have := decOk_all ⟨x, h⟩
  unfold decOk at this
  simp only [Bool.and_eq_true, Bool.not_eq_true', decide_eq_true_eq, beq_iff_eq] at this
  obtain ⟨⟨⟨⟨⟨⟨a, b⟩, c⟩, d⟩, e⟩, f⟩, g⟩ := this
  exact ⟨a, b, c, d, e, f, g⟩
def partsT (a b c d : Nat) : List ByteArray := [decS a, decS b, decS c, decS d]
def textT (a b c d : Nat) : ByteArray := joinTo (partsT a b c d) 46 4
def textN (n : Nat) : ByteArray := textT (n / 16777216 % 256) (n / 65536 % 256) (n / 256 % 256) (n % 256)
theorem at_right {x y : ByteArray} {j : Nat} (h : x.size ≤ j) : byteAt (x ++ y) j = byteAt y (j - x.size) := by
  have hx : x.data.toList.length = x.size := rfl
  unfold byteAt
  rw [data_append, List.getD, List.getD, List.getElem?_append_right (by omega), hx]
theorem at_left {x y : ByteArray} {j : Nat} (h : j < x.size) : byteAt (x ++ y) j = byteAt x j := by
  have hx : x.data.toList.length = x.size := rfl
  unfold byteAt
  rw [data_append, List.getD, List.getD, List.getElem?_append_left (by omega)]
theorem has_false {y : ByteArray} {c : UInt8} (h : hasB y c = false) {j : Nat} (hj : j < y.size) : byteAt y j ≠ c := fun e => by rw [hasB_yes hj e] at h; cases h
/-- Behind the last mark. -/
theorem last_of {x y : ByteArray} (h : hasB y 46 = false) : ∀ j, j ≤ y.size → lastTo (x ++ ⟨#[46]⟩ ++ y) (x.size + 1 + j) = x.size + 1 := by
  have hs : (x ++ (⟨#[46]⟩ : ByteArray)).size = x.size + 1 := by rw [ByteArray.size_append]; rfl
  intro j
  induction j with
  | zero =>
    intro _
    refine lastTo_yes ?_
    rw [at_left (by omega), at_right (Nat.le_refl _), Nat.sub_self]
    rfl
  | succ j ih =>
    intro hj
    have hne : ¬ byteAt (x ++ ⟨#[46]⟩ ++ y) (x.size + 1 + j) = 46 := by
      rw [at_right (by omega), hs, show x.size + 1 + j - (x.size + 1) = j by omega]
      exact has_false h (by omega)
    rw [show x.size + 1 + (j + 1) = (x.size + 1 + j) + 1 by omega, lastTo_no hne]
    exact ih (by omega)
section
variable {a b c d : Nat} (ha : a < 256) (hb : b < 256) (hc : c < 256) (hd : d < 256)
include ha hb hc hd
theorem parts_free : ∀ j, j < 4 → hasB ((partsT a b c d).getD j ByteArray.empty) 46 = false := by
  intro j hj
  have : j = 0 ∨ j = 1 ∨ j = 2 ∨ j = 3 := by omega
  rcases this with rfl | rfl | rfl | rfl
  · exact (dec_facts ha).2.2.1
  · exact (dec_facts hb).2.2.1
  · exact (dec_facts hc).2.2.1
  · exact (dec_facts hd).2.2.1
theorem text_form : ∃ x : ByteArray, textT a b c d = x ++ ⟨#[46]⟩ ++ decS d ∧ x.size ≤ 11 := by
  have _hd := hd
  refine ⟨joinTo (partsT a b c d) 46 3, ?_, ?_⟩
  · unfold textT
    rw [joinTo_more _ _ 3 (by omega)]
    rfl
  · rw [joinTo_more _ _ 2 (by omega), joinTo_more _ _ 1 (by omega), joinTo_one]
    have h1 := (dec_facts ha).2.2.2.1
    have h2 := (dec_facts hb).2.2.2.1
    have h3 := (dec_facts hc).2.2.2.1
    simp only [ByteArray.size_append]
    show 0 + (decS a).size + 1 + (decS b).size + 1 + (decS c).size ≤ 11
    omega
theorem text_size : (textT a b c d).size ≤ 15 := by
  obtain ⟨x, h, h1⟩ := text_form ha hb hc hd
  have h2 := (dec_facts hd).2.2.2.1
  rw [h, ByteArray.size_append, ByteArray.size_append]
  show x.size + 1 + _ ≤ 15
  omega
theorem text_cut : cutP (textT a b c d) = textT a b c d := by
  obtain ⟨x, h, _⟩ := text_form ha hb hc hd
  obtain ⟨_, _, h3, _, h5, _⟩ := dec_facts hd
  have hs : (x ++ (⟨#[46]⟩ : ByteArray)).size = x.size + 1 := by rw [ByteArray.size_append]; rfl
  have hs2 : (textT a b c d).size = x.size + 1 + (decS d).size := by rw [h, ByteArray.size_append, hs]
  unfold cutP
  rw [if_neg]
  rintro ⟨_, h2⟩
  rw [hs2, h, at_right (by omega), hs, show x.size + 1 + (decS d).size - 1 - (x.size + 1) = (decS d).size - 1 by omega] at h2
  exact has_false h3 (by omega) h2
theorem text_fields : fieldsB (textT a b c d) 46 = partsT a b c d ∧ overB (textT a b c d) 46 4 = none := by
  obtain ⟨h1, h2⟩ := joined_parts (partsT a b c d) 46 4 rfl (by omega) (parts_free ha hb hc hd)
  exact ⟨h1, over_none (t := joinTo (partsT a b c d) 46 4) (by rw [h2]; omega)⟩
theorem parse_text : parseQ (textT a b c d) = (((a * 256 + b) * 256 + c) * 256 + d, 0, 0) := by
  obtain ⟨hf, ho⟩ := text_fields ha hb hc hd
  have hcut := text_cut ha hb hc hd
  obtain ⟨a1, a2, _⟩ := dec_facts ha
  obtain ⟨b1, b2, _⟩ := dec_facts hb
  obtain ⟨c1, c2, _⟩ := dec_facts hc
  obtain ⟨d1, d2, _⟩ := dec_facts hd
  have l0 : limQ 0 4 = 255 := by decide
  have l1 : limQ 1 4 = 255 := by decide
  have l2 : limQ 2 4 = 255 := by decide
  have l3 : limQ 3 4 = 255 := by decide
  have w0 : wtQ 0 4 = 16777216 := by decide
  have w1 : wtQ 1 4 = 65536 := by decide
  have w2 : wtQ 2 4 = 256 := by decide
  have w3 : wtQ 3 4 = 1 := by decide
  have hk : checkQ (partsT a b c d) 0 = none := by
    unfold partsT
    rw [check_yes a1, check_yes b1, check_yes c1, check_yes d1, checkQ]
  have s3 : ∀ x t, sumQ 4 [decS d] 3 x t = (t + d, none) := fun x t => by rw [sum_yes (by rw [l3, d2]; omega), d2, w3, sumQ, Nat.mul_one]
  have s2 : ∀ x t, sumQ 4 [decS c, decS d] 2 x t = (t + c * 256 + d, none) := fun x t => by rw [sum_yes (by rw [l2, c2]; omega), c2, w2]; exact s3 _ _
  have s1 : ∀ x t, sumQ 4 [decS b, decS c, decS d] 1 x t = (t + b * 65536 + c * 256 + d, none) := fun x t => by rw [sum_yes (by rw [l1, b2]; omega), b2, w1]; exact s2 _ _
  have s0 : ∀ x t, sumQ 4 [decS a, decS b, decS c, decS d] 0 x t = (t + a * 16777216 + b * 65536 + c * 256 + d, none) := fun x t => by rw [sum_yes (by rw [l0, a2]; omega), a2, w0]; exact s1 _ _
  have e : 0 + a * 16777216 + b * 65536 + c * 256 + d = ((a * 256 + b) * 256 + c) * 256 + d := by omega
  have hs : sumQ 4 (partsT a b c d) 0 0 0 = (((a * 256 + b) * 256 + c) * 256 + d, none) := by
    rw [← e]; exact s0 0 0
  refine parse_good (by rw [hcut]; exact ho) ?_ ?_
  · rw [hcut, hf]; exact hk
  · rw [hcut, hf]; exact hs
theorem numeric_text : numericB (textT a b c d) = true := by
  obtain ⟨x, h, _⟩ := text_form ha hb hc hd
  obtain ⟨_, _, h3, _, h5, h6, h7⟩ := dec_facts hd
  have hs : (x ++ (⟨#[46]⟩ : ByteArray)).size = x.size + 1 := by rw [ByteArray.size_append]; rfl
  have hs2 : (textT a b c d).size = x.size + 1 + (decS d).size := by rw [h, ByteArray.size_append, hs]
  have hl : lastS (textT a b c d) = decS d := by
    unfold lastS
    have := last_of (x := x) h3 (decS d).size (Nat.le_refl _)
    rw [hs2, h, this]
    apply ByteArray.ext
    apply Array.ext'
    rw [Lib.extract_data, data_append]
    have hxl : (x ++ (⟨#[46]⟩ : ByteArray)).data.toList.length = x.size + 1 := hs
    have hdl : (decS d).data.toList.length = (decS d).size := rfl
    rw [List.drop_append_of_le_length (by omega), List.drop_of_length_le (by omega), List.nil_append, List.take_of_length_le (by omega)]
  unfold numericB
  rw [text_cut ha hb hc hd, hl, if_neg (by simp [h6]), decide_eq_false (by omega), h7]
  rfl
end
theorem textN_of {a b c d : Nat} (ha : a < 256) (hb : b < 256) (hc : c < 256) (hd : d < 256) : textN (((a * 256 + b) * 256 + c) * 256 + d) = textT a b c d := by
  unfold textN
  rw [show (((a * 256 + b) * 256 + c) * 256 + d) / 16777216 % 256 = a by omega, show (((a * 256 + b) * 256 + c) * 256 + d) / 65536 % 256 = b by omega, show (((a * 256 + b) * 256 + c) * 256 + d) / 256 % 256 = c by omega, show (((a * 256 + b) * 256 + c) * 256 + d) % 256 = d by omega]
end Go.Proofs.YtameipbnobaoeaaDoor

/- quad.Of, quad.Number. -/
namespace Go.Proofs.YtameipbnobaoeaaDoor
open Go.RowKit

/-- An address as a value: four bytes. -/
def v4 (a b c d : Int) : Value := .agg #[.int .u8 a, .int .u8 b, .int .u8 c, .int .u8 d]
/-- The address of a number. -/
def v4N (n : Nat) : Value := v4 (n / 16777216 % 256 : Nat) (n / 65536 % 256 : Nat) (n / 256 % 256 : Nat) (n % 256 : Nat)
set_option maxHeartbeats 1600000 in
set_option maxRecDepth 100000 in
theorem quad_Of (n : Nat) (hn : n < 4294967296) (w : World) : Calls Tryd.prog 54 #[.int .u32 (n : Int)] w fun e w' => e = .returned (v4N n) ∧ Below w.heap.size w w' := by
  go_enter Tryd.func54, Tryd.ntmps54
  go_wp2_with fail
  go_rounds 5
  go_returns
  refine ⟨?_, (Below.refl _ _).alloc (Nat.le_refl _) _⟩
  unfold v4N v4
  have e1 : (n : Int) / 256 / 256 / 256 = ((n / 16777216 % 256 : Nat) : Int) := by omega
  have e2 : (n : Int) / 256 / 256 % 256 = ((n / 65536 % 256 : Nat) : Int) := by omega
  have e3 : (n : Int) / 256 % 256 = ((n / 256 % 256 : Nat) : Int) := by omega
  have e4 : (n : Int) % 256 = ((n % 256 : Nat) : Int) := by omega
  rw [e1, e2, e3, e4]
theorem or_byte32 (m d : Nat) (hm : m < 16777216) (hd : d < 256) : bits .or .u32 ((m : Int) * 256 % 4294967296) (d : Int) = ((m * 256 + d : Nat) : Int) := by
  have e1 : (m : Int) * 256 % 4294967296 = ((m * 256 : Nat) : Int) := by omega
  have h1 : (BitVec.ofInt 32 ((m * 256 : Nat) : Int)).toNat = m * 256 := by rw [BitVec.toNat_ofInt]; omega
  have h2 : (BitVec.ofInt 32 (d : Int)).toNat = d := by rw [BitVec.toNat_ofInt]; omega
  have h3 : m * 256 ||| d = m * 256 + d := by
    have := Nat.shiftLeft_add_eq_or_of_lt (i := 8) (b := d) hd m
    rw [Nat.shiftLeft_eq] at this
    exact this.symm
  rw [e1]
  show IntKind.u32.wrap ((BitVec.ofInt 32 ((m * 256 : Nat) : Int) ||| BitVec.ofInt 32 (d : Int)).toNat : Int) = _
  rw [BitVec.toNat_or, h1, h2, h3, IntKind.wrap_u32]
  omega
theorem or_byte0 (d : Nat) (hd : d < 256) : bits .or .u32 0 (d : Int) = (d : Int) := by
  have := or_byte32 0 d (by omega) hd
  simpa using this
set_option maxHeartbeats 1600000 in
set_option maxRecDepth 100000 in
theorem quad_Number (a b c d : Nat) (ha : a < 256) (hb : b < 256) (hc : c < 256) (hd : d < 256) (w : World) : Calls Tryd.prog 27 #[v4 a b c d] w fun e w' => e = .returned (.int .u32 ((((a * 256 + b) * 256 + c) * 256 + d : Nat) : Int)) ∧ Below w.heap.size w w' := by
  unfold v4
  have x0 : ∀ W : World, (Instr.index 37 (.agg #[.int .u8 (a : Int), .int .u8 (b : Int), .int .u8 (c : Int), .int .u8 (d : Int)]) (.int .i64 0)).run Tryd.prog W = .ok (.int .u8 (a : Int)) W := fun W => by kernel_rfl
  have x1 : ∀ W : World, (Instr.index 37 (.agg #[.int .u8 (a : Int), .int .u8 (b : Int), .int .u8 (c : Int), .int .u8 (d : Int)]) (.int .i64 1)).run Tryd.prog W = .ok (.int .u8 (b : Int)) W := fun W => by kernel_rfl
  have x2 : ∀ W : World, (Instr.index 37 (.agg #[.int .u8 (a : Int), .int .u8 (b : Int), .int .u8 (c : Int), .int .u8 (d : Int)]) (.int .i64 2)).run Tryd.prog W = .ok (.int .u8 (c : Int)) W := fun W => by kernel_rfl
  have x3 : ∀ W : World, (Instr.index 37 (.agg #[.int .u8 (a : Int), .int .u8 (b : Int), .int .u8 (c : Int), .int .u8 (d : Int)]) (.int .i64 3)).run Tryd.prog W = .ok (.int .u8 (d : Int)) W := fun W => by kernel_rfl
  go_enter Tryd.func27, Tryd.ntmps27
  go_wp2_with fail
  go_rounds 5
  go_returns
  refine ⟨?_, (Below.refl _ _).alloc (Nat.le_refl _) _⟩
  have b1 := or_byte0 a ha
  have b2 := or_byte32 a b (by omega) hb
  have b3 := or_byte32 (a * 256 + b) c (by omega) hc
  have b4 := or_byte32 ((a * 256 + b) * 256 + c) d (by omega) hd
  simp only [b1, b2, b3, b4]
  rfl
end Go.Proofs.YtameipbnobaoeaaDoor

/- Rows of numbers that came in: rows of bytes, rows of ints. -/
namespace Go.Proofs.YtameipbnobaoeaaDoor
open Go.RowKit

/-- A slice of numbers that came in: nil, or a row of so many cells, each fitting its kind. -/
def IsRow (k : IntKind) (w : World) (a : Option Addr) (len cap : Nat) (zs : List Int) : Prop :=
  (a = none ∧ len = 0 ∧ cap = 0 ∧ zs = []) ∨
  ∃ x, a = some x ∧ len ≤ cap ∧ cap ≤ maxLen ∧ zs.length = cap ∧ (∀ i, i < zs.length → w.cell? (x.add i) = some (.int k (zs.getD i 0))) ∧ ∀ n ∈ zs, (Lit.int k n).wf = true

theorem spot_none {w : World} {x : Addr} {v : Value} (h : w.cell? (x.add 0) = some v) : x = ⟨x.block, x.off, none⟩ ∧ x.block < w.heap.size := by
  have hb := World.block_lt_of_cell? w _ h
  cases x with
  | mk b o s =>
    cases s with
    | none => exact ⟨rfl, hb⟩
    | some q =>
      simp only [World.cell?, Addr.add] at h
      split at h <;> simp at h

theorem IsRow.bytes {w : World} {a : Option Addr} {len cap : Nat} {zs : List Int} (h : IsRow .u8 w a len cap zs) : ∃ s : ByteArray, s.size = len ∧ BytesSl w (.slice a len cap) s := by
  rcases h with ⟨rfl, rfl, rfl, rfl⟩ | ⟨x, rfl, hl, hm, hz, hcell, hwz⟩
  · exact ⟨ByteArray.empty, rfl, .inl ⟨rfl, none, 0, rfl⟩⟩
  · have hsz : (⟨((zs.take len).map fun n => UInt8.ofNat n.toNat).toArray⟩ : ByteArray).size = len := by
      show (((zs.take len).map fun n => UInt8.ofNat n.toNat).toArray).size = _
      simp; omega
    refine ⟨⟨((zs.take len).map fun n => UInt8.ofNat n.toNat).toArray⟩, hsz, ?_⟩
    by_cases h0 : len = 0
    · exact .inl ⟨hsz.trans h0, some x, cap, by rw [h0]⟩
    · obtain ⟨hx, hb⟩ := spot_none (hcell 0 (by omega))
      refine .inr ⟨x.block, x.off, cap, by rw [hsz, ← hx], by rw [hsz]; exact hl, hm, hb, fun j hj => ?_⟩
      rw [hsz] at hj
      have hc := hcell j (by omega)
      have hadd : x.add j = ⟨x.block, x.off + j, none⟩ := by cases x; cases hx; simp [Addr.add]
      rw [hadd] at hc
      rw [hc]
      have hjz : j < zs.length := by omega
      have hw := hwz zs[j] (List.getElem_mem _)
      simp [Lit.wf, IntKind.min, IntKind.max, IntKind.signed, IntKind.bits] at hw
      simp only [byteAt, List.getD, List.getElem?_map, List.getElem?_take, if_pos hj, List.getElem?_eq_getElem hjz, Option.map_some, Option.getD_some]
      rw [UInt8.toNat_ofNat_of_lt' (by have : zs[j].toNat < 256 := by omega
                                       exact this), Int.toNat_of_nonneg hw.1]

/-- A slice of ints that reads as these numbers. -/
def IntsSl (w : World) (v : Value) (l : List Int) : Prop :=
  (l = [] ∧ ∃ a cap, v = .slice a 0 cap) ∨ ∃ b off cap, v = .slice (some ⟨b, off, none⟩) l.length cap ∧ l.length ≤ cap ∧ cap ≤ maxLen ∧ b < w.heap.size ∧ ∀ j, j < l.length → w.cell? ⟨b, off + j, none⟩ = some (.int .i64 (l.getD j 0))
theorem IntsSl.below {w w' : World} {v : Value} {l : List Int} (h : IntsSl w v l) (hb : Below w.heap.size w w') : IntsSl w' v l := by
  rcases h with h | ⟨b, off, cap, e, h1, h2, h3, h4⟩
  · exact .inl h
  · exact .inr ⟨b, off, cap, e, h1, h2, Nat.lt_of_lt_of_le h3 hb.size, fun j hj => (hb.cell (p := ⟨b, off + j, none⟩) h3).trans (h4 j hj)⟩
theorem IsRow.ints {w : World} {a : Option Addr} {len cap : Nat} {zs : List Int} (h : IsRow .i64 w a len cap zs) : ∃ l : List Int, l.length = len ∧ IntsSl w (.slice a len cap) l ∧ ∀ n ∈ l, (Lit.int .i64 n).wf = true := by
  rcases h with ⟨rfl, rfl, rfl, rfl⟩ | ⟨x, rfl, hl, hm, hz, hcell, hwz⟩
  · exact ⟨[], rfl, .inl ⟨rfl, none, 0, rfl⟩, fun _ h => by cases h⟩
  · have hlen : (zs.take len).length = len := by simp; omega
    refine ⟨zs.take len, hlen, ?_, fun n hn => hwz n (List.mem_of_mem_take hn)⟩
    by_cases h0 : len = 0
    · exact .inl ⟨by rw [h0]; rfl, some x, cap, by rw [h0]⟩
    · obtain ⟨hx, hb⟩ := spot_none (hcell 0 (by omega))
      refine .inr ⟨x.block, x.off, cap, by rw [hlen, ← hx], by rw [hlen]; exact hl, hm, hb, fun j hj => ?_⟩
      rw [hlen] at hj
      have hc := hcell j (by omega)
      have hadd : x.add j = ⟨x.block, x.off + j, none⟩ := by cases x; cases hx; simp [Addr.add]
      rw [hadd] at hc
      rw [hc]
      simp [List.getD, hj]
end Go.Proofs.YtameipbnobaoeaaDoor

/- A slice of one-cell elements that is read as values. -/
namespace Go.Proofs.YtameipbnobaoeaaDoor
open Go.RowKit

/-- A slice of one-cell elements that reads as these values. -/
def RowSl (w : World) (a : Option Addr) (l : List Value) : Prop := ∀ i v, l[i]? = some v → ∃ b, a = some ⟨b, 0, none⟩ ∧ b < w.heap.size ∧ w.cell? ⟨b, i, none⟩ = some v
theorem row_sl {w : World} {base n : Nat} {e : TypeId} {v : Value} {l : List Value} (h : w.ownsRow base e 1 v n l) (hn : n = l.length) : ∃ a c, v = .slice a l.length c ∧ l.length ≤ c ∧ c ≤ maxLen ∧ RowSl w a l := by
  subst hn
  have h' := h
  rcases h.2 with ⟨e0, e1⟩ | ⟨g, cap, cur, e0, hg, hh, h1, h2, _⟩
  · refine ⟨none, 0, by rw [e0, e1], by omega, by unfold maxLen; omega, fun i c hc => ?_⟩
    have := (List.getElem?_eq_some_iff.1 hc).1
    omega
  · refine ⟨_, cap, e0, h1, h2, fun i c hc => ?_⟩
    have hlt := (List.getElem?_eq_some_iff.1 hc).1
    subst e0
    refine ⟨g, rfl, lt_of_block hh, ?_⟩
    rw [h'.cellAt i (by omega), hc]
theorem RowSl.below {w w' : World} {a : Option Addr} {l : List Value} (h : RowSl w a l) (hb : Below w.heap.size w w') : RowSl w' a l := by
  intro i v hv
  obtain ⟨b, e, hlt, h1⟩ := h i v hv
  exact ⟨b, e, Nat.lt_of_lt_of_le hlt hb.size, (hb.cell (p := ⟨b, i, none⟩) hlt).trans h1⟩
/-- .. where a newer row is written. -/
theorem RowSl.mid {w w1 w2 : World} {a : Option Addr} {l : List Value} {g : Nat} (h : RowSl w a l) (hb : Below w.heap.size w w1) (hg : w1.grownBy w2 (some g)) (hn : w.heap.size ≤ g) : RowSl w2 a l := by
  intro i v hv
  obtain ⟨b, e, hlt, h1⟩ := h i v hv
  have h2 := Nat.lt_of_lt_of_le hlt hb.size
  have hk := hg.block b h2 (fun e => by injection e with e; omega)
  exact ⟨b, e, Nat.lt_of_lt_of_le h2 hg.size, (World.cell?_of_block hk).trans ((hb.cell (p := ⟨b, i, none⟩) hlt).trans h1)⟩
end Go.Proofs.YtameipbnobaoeaaDoor

/- quad.Text. -/
namespace Go.Proofs.YtameipbnobaoeaaDoor
open Go.RowKit

theorem join_text (a b c d : Nat) : (⟨(joinL (decS a) (decS b) (decS c) (decS d)).toArray⟩ : ByteArray) = textT a b c d := by
  unfold textT
  rw [joinTo_more _ _ 3 (by omega), joinTo_more _ _ 2 (by omega), joinTo_more _ _ 1 (by omega), joinTo_one]
  apply ba_ext
  simp only [data_append]
  unfold joinL partsT
  simp [joinTo]
theorem four_of {w : World} {base : Nat} {v : Value} {a b c d : ByteArray} (h : w.ownsRow base 9 1 v 4 [strV a, strV b, strV c, strV d]) : ∃ g cap, v = .slice (some ⟨g, 0, none⟩) 4 cap ∧ 4 ≤ cap ∧ cap ≤ maxLen ∧ Four w g a b c d := by
  obtain ⟨x, cap, rfl, h1, h2, h3⟩ := row_sl h rfl
  obtain ⟨g, rfl, hg, c0⟩ := h3 0 _ rfl
  obtain ⟨_, e1, _, c1⟩ := h3 1 _ rfl
  obtain ⟨_, e2, _, c2⟩ := h3 2 _ rfl
  obtain ⟨_, e3, _, c3⟩ := h3 3 _ rfl
  cases e1
  cases e2
  cases e3
  exact ⟨g, cap, rfl, h1, h2, hg, c0, c1, c2, c3⟩
theorem fold_dec (x : Nat) (hx : x < 256) (w : World) : Calls Tryd.prog 59 #[.int .u64 (x : Int)] w fun e w' => e = .returned (.string (decS x)) ∧ Below w.heap.size w w' := fold_Digits x w (by omega)
set_option maxHeartbeats 6400000 in
set_option maxRecDepth 100000 in
theorem quad_Text (a b c d : Nat) (ha : a < 256) (hb : b < 256) (hc : c < 256) (hd : d < 256) (w : World) : Calls Tryd.prog 39 #[.agg #[.int .u8 (a : Int), .int .u8 (b : Int), .int .u8 (c : Int), .int .u8 (d : Int)]] w fun e w' => e = .returned (.string (textT a b c d)) ∧ Below w.heap.size w w' := by
  obtain ⟨i0, hi, hz0, hz1, hz2⟩ := info_parts info_string
  have x0 : ∀ W : World, (Instr.index 37 (.agg #[.int .u8 (a : Int), .int .u8 (b : Int), .int .u8 (c : Int), .int .u8 (d : Int)]) (.int .i64 0)).run Tryd.prog W = .ok (.int .u8 (a : Int)) W := fun W => by kernel_rfl
  have x1 : ∀ W : World, (Instr.index 37 (.agg #[.int .u8 (a : Int), .int .u8 (b : Int), .int .u8 (c : Int), .int .u8 (d : Int)]) (.int .i64 1)).run Tryd.prog W = .ok (.int .u8 (b : Int)) W := fun W => by kernel_rfl
  have x2 : ∀ W : World, (Instr.index 37 (.agg #[.int .u8 (a : Int), .int .u8 (b : Int), .int .u8 (c : Int), .int .u8 (d : Int)]) (.int .i64 2)).run Tryd.prog W = .ok (.int .u8 (c : Int)) W := fun W => by kernel_rfl
  have x3 : ∀ W : World, (Instr.index 37 (.agg #[.int .u8 (a : Int), .int .u8 (b : Int), .int .u8 (c : Int), .int .u8 (d : Int)]) (.int .i64 3)).run Tryd.prog W = .ok (.int .u8 (d : Int)) W := fun W => by kernel_rfl
  have HJ := Lib.hid (join_text a b c d)
  have za := (dec_facts ha).2.2.2.1
  have zb := (dec_facts hb).2.2.2.1
  have zc := (dec_facts hc).2.2.2.1
  have zd := (dec_facts hd).2.2.2.1
  have ca := Lib.hid (fun W => fold_dec a ha W)
  have cb := Lib.hid (fun W => fold_dec b hb W)
  have cc := Lib.hid (fun W => fold_dec c hc W)
  have cd := Lib.hid (fun W => fold_dec d hd W)
  generalize decS a = sa at *
  generalize decS b = sb at *
  generalize decS c = sc at *
  generalize decS d = sd at *
  go_enter Tryd.func39, Tryd.ntmps39
  go_wp2_with fail
  refine wp_loop_rounds 5 ?_
  have hb0 : Below w.heap.size w (w.alloc (.cells #[.int .u8 (a : Int), .int .u8 (b : Int), .int .u8 (c : Int), .int .u8 (d : Int)] 37)) := (Below.refl _ _).alloc (Nat.le_refl _) _
  have hown0 := World.ownsRow_nil (w.alloc (.cells #[.int .u8 (a : Int), .int .u8 (b : Int), .int .u8 (c : Int), .int .u8 (d : Int)] 37)) w.heap.size 9 1
  rw [rounds_succ]
  go_wp2_with fail
  refine (ca.out _).mono ?_
  rintro e u0 ⟨rfl, hu0⟩
  have hbb0 := Bt hb0 hu0
  have ho0 := ownsRow_below hown0 hu0
  clear hown0 hb0 hu0
  go_wp2_with (at_builtin; refine wpList_append_own _ rfl _ _ 56 rfl w.heap.size 9 i0 (.string ByteArray.empty) 1 16 Tryd.underlying56 hi hz0 hz1 hz2 rfl (by decide) _ 0 [] rfl (ho0.alloc _) ⟨u0.heap.size, 0, none⟩ 1 1 [strV sa] rfl rfl ?c1 ?c2 ?c3 ?c4 ?c5 ?_)
  case c1 =>
    intro j u hj
    match j, hj with
    | 0, hj => simp at hj; subst hj; simp [Addr.add, strV]
  case c2 => intro u hu; simp at hu; subst hu; rfl
  case c3 => unfold maxLen; omega
  case c4 => omega
  case c5 => have := hbb0.size; simp; omega
  intro v1 w1 hown1 hg1 _
  have hown1 : w1.ownsRow w.heap.size 9 1 v1 1 [strV sa] := hown1
  have hb1 : Below w.heap.size w w1 := below_app hbb0 ho0 (Nat.le_refl _) hg1
  clear hg1 ho0 hbb0
  obtain ⟨q0, r0, rfl, _, _⟩ := ownsRow_form hown1 (by omega)
  go_wp2_with fail
  rw [rounds_succ]
  go_wp2_with fail
  refine (cb.out _).mono ?_
  rintro e u1 ⟨rfl, hu1⟩
  have hbb1 := Bt hb1 hu1
  have ho1 := ownsRow_below hown1 hu1
  clear hown1 hb1 hu1
  go_wp2_with (at_builtin; refine wpList_append_own _ rfl _ _ 56 rfl w.heap.size 9 i0 (.string ByteArray.empty) 1 16 Tryd.underlying56 hi hz0 hz1 hz2 rfl (by decide) _ 1 [strV sa] rfl (ho1.alloc _) ⟨u1.heap.size, 0, none⟩ 1 1 [strV sb] rfl rfl ?c1 ?c2 ?c3 ?c4 ?c5 ?_)
  case c1 =>
    intro j u hj
    match j, hj with
    | 0, hj => simp at hj; subst hj; simp [Addr.add, strV]
  case c2 => intro u hu; simp at hu; subst hu; rfl
  case c3 => unfold maxLen; omega
  case c4 => omega
  case c5 => have := hbb1.size; simp; omega
  intro v2 w2 hown2 hg2 _
  have hown2 : w2.ownsRow w.heap.size 9 1 v2 2 [strV sa, strV sb] := hown2
  have hb2 : Below w.heap.size w w2 := below_app hbb1 ho1 (Nat.le_refl _) hg2
  clear hg2 ho1 hbb1
  obtain ⟨q1, r1, rfl, _, _⟩ := ownsRow_form hown2 (by omega)
  go_wp2_with fail
  rw [rounds_succ]
  go_wp2_with fail
  refine (cc.out _).mono ?_
  rintro e u2 ⟨rfl, hu2⟩
  have hbb2 := Bt hb2 hu2
  have ho2 := ownsRow_below hown2 hu2
  clear hown2 hb2 hu2
  go_wp2_with (at_builtin; refine wpList_append_own _ rfl _ _ 56 rfl w.heap.size 9 i0 (.string ByteArray.empty) 1 16 Tryd.underlying56 hi hz0 hz1 hz2 rfl (by decide) _ 2 [strV sa, strV sb] rfl (ho2.alloc _) ⟨u2.heap.size, 0, none⟩ 1 1 [strV sc] rfl rfl ?c1 ?c2 ?c3 ?c4 ?c5 ?_)
  case c1 =>
    intro j u hj
    match j, hj with
    | 0, hj => simp at hj; subst hj; simp [Addr.add, strV]
  case c2 => intro u hu; simp at hu; subst hu; rfl
  case c3 => unfold maxLen; omega
  case c4 => omega
  case c5 => have := hbb2.size; simp; omega
  intro v3 w3 hown3 hg3 _
  have hown3 : w3.ownsRow w.heap.size 9 1 v3 3 [strV sa, strV sb, strV sc] := hown3
  have hb3 : Below w.heap.size w w3 := below_app hbb2 ho2 (Nat.le_refl _) hg3
  clear hg3 ho2 hbb2
  obtain ⟨q2, r2, rfl, _, _⟩ := ownsRow_form hown3 (by omega)
  go_wp2_with fail
  rw [rounds_succ]
  go_wp2_with fail
  refine (cd.out _).mono ?_
  rintro e u3 ⟨rfl, hu3⟩
  have hbb3 := Bt hb3 hu3
  have ho3 := ownsRow_below hown3 hu3
  clear hown3 hb3 hu3
  go_wp2_with (at_builtin; refine wpList_append_own _ rfl _ _ 56 rfl w.heap.size 9 i0 (.string ByteArray.empty) 1 16 Tryd.underlying56 hi hz0 hz1 hz2 rfl (by decide) _ 3 [strV sa, strV sb, strV sc] rfl (ho3.alloc _) ⟨u3.heap.size, 0, none⟩ 1 1 [strV sd] rfl rfl ?c1 ?c2 ?c3 ?c4 ?c5 ?_)
  case c1 =>
    intro j u hj
    match j, hj with
    | 0, hj => simp at hj; subst hj; simp [Addr.add, strV]
  case c2 => intro u hu; simp at hu; subst hu; rfl
  case c3 => unfold maxLen; omega
  case c4 => omega
  case c5 => have := hbb3.size; simp; omega
  intro v4 w4 hown4 hg4 _
  have hown4 : w4.ownsRow w.heap.size 9 1 v4 4 [strV sa, strV sb, strV sc, strV sd] := hown4
  have hb4 : Below w.heap.size w w4 := below_app hbb3 ho3 (Nat.le_refl _) hg4
  clear hg4 ho3 hbb3
  obtain ⟨g, cap, rfl, hcap, hcm, hF⟩ := four_of hown4
  clear hown4
  go_wp2_with fail
  rw [rounds_succ]
  go_wp2_with fail
  refine (join4 g cap sa sb sc sd _ hF za zb zc zd hcap hcm).mono ?_
  rintro e w5 ⟨rfl, hb5⟩
  rw [HJ.out]
  have hb45 := Bt hb4 hb5
  go_wp2_with fail
  go_ret
  exact ⟨rfl, hb45⟩
end Go.Proofs.YtameipbnobaoeaaDoor
