/- Parts of patterns, characters, in memory. -/
import Derived.Test.YtkgifenidmbdkaaGreatDoorSubstMatchesM1
import Derived.Test.YtkgifenidmbdkaaGreatDoorSubstMatchesM6
import Derived.Test.YtkgifenidmbdkaaGreatDoorSubstMatchesM7
import Derived.Laws.OwnMore
import Derived.Deep.OwnRows
import Derived.Test.YtkgifenidmbdkaaGreatDoorSubstMatchesM10

namespace Go.Proofs.YtkgifenidmbdkaaGreatDoor
open Go.RowKit

theorem info_part : (Tryz.prog.info? 218).map (fun i => (i.zero, i.size, i.bytes)) = some (some (.agg #[.int .i64 0, .bool false, .bool false]), 3, 16) := by kernel_rfl

def partCells (p : GPart) : List Value := [.int .i64 (p.char : Int), .bool p.wild, .bool p.many]
def partsV (l : List GPart) : List Value := l.flatMap partCells
theorem partsV_len (l : List GPart) : (partsV l).length = l.length * 3 := by
  induction l with
  | nil => rfl
  | cons p l ih =>
    unfold partsV at ih ⊢
    rw [List.flatMap_cons, List.length_append, ih, List.length_cons]
    show 3 + _ = _
    omega
theorem partsV_app (a b : List GPart) : partsV (a ++ b) = partsV a ++ partsV b := by unfold partsV; exact List.flatMap_append
theorem partsV_at {l : List GPart} {i : Nat} {p : GPart} (h : l[i]? = some p) (j : Nat) (hj : j < 3) : (partsV l)[i * 3 + j]? = (partCells p)[j]? := by
  induction l generalizing i with
  | nil => simp at h
  | cons q l ih =>
    cases i with
    | zero =>
      simp at h; subst h
      show (partCells q ++ partsV l)[0 * 3 + j]? = _
      rw [List.getElem?_append_left (by show _ < 3; omega)]
      congr 1; omega
    | succ i =>
      simp at h
      show (partCells q ++ partsV l)[(i + 1) * 3 + j]? = _
      rw [List.getElem?_append_right (by show 3 ≤ _; omega), ← ih h]
      congr 1
      show (i + 1) * 3 + j - 3 = _
      omega
theorem partsV_one (p : GPart) : ∀ u ∈ partCells p, u.oneCell' = true := by
  intro u hu
  unfold partCells at hu
  simp at hu
  rcases hu with rfl | rfl | rfl <;> rfl

def OwnP (w : World) (base : Nat) (v : Value) (l : List GPart) : Prop := w.ownsRow base 218 3 v l.length (partsV l)

theorem OwnP.below {w w' : World} {base : Nat} {v : Value} {l : List GPart} (h : OwnP w base v l) (hb : Below w.heap.size w w') : OwnP w' base v l := ownsRow_below h hb
theorem OwnP.nil (w : World) (base : Nat) : OwnP w base (.slice none 0 0) [] := World.ownsRow_nil _ _ _ _
theorem OwnP.under {w0 w w' : World} {base : Nat} {v : Value} {l : List GPart} (h : OwnP w base v l) (hb : Below w0.heap.size w0 w) (hB : w0.heap.size ≤ base) (hg : w.grownBy w' v.ownBlock) : Below w0.heap.size w0 w' :=
  hb.grown hg hb.size (fun j hj => Nat.le_trans hB (World.ownsRow.lt h j hj).1)
theorem wpList_app_part {w : World} {ops : Array Oper} {rest : List Oper} {o : Oper} {a : Act} {Q : Exit → Act → World → Prop} (hgd : o.guard = none) (s x : Operand) (ho : o.op = .call { callee := .builtin .append, args := #[s, x], argTypes := #[167, 167] })
    (base : Nat) (v : Value) (l : List GPart) (hs : a.eval s = v) (hown : OwnP w base v l) (g c : Nat) (p : GPart) (hx : a.eval x = .slice (some ⟨g, 0, none⟩) 1 c) (hb : w.heap[g]? = some (.cells (partCells p).toArray 218 (0, 0)))
    (hl : l.length ≤ 1073741824) (hbase : base ≤ w.heap.size)
    (h : ∀ v' w', OwnP w' base v' (l ++ [p]) → w.grownBy w' v.ownBlock → wpList Tryz.prog ops Q rest (a.put o.dst v') w') : wpList Tryz.prog ops Q (o :: rest) a w := by
  obtain ⟨i, hi, hz, hsize, hby⟩ := info_parts info_part
  refine wpList_append_own _ hgd s x 167 ho base 218 i _ 3 16 Tryz.underlying167 hi hz hsize hby rfl (by decide) v _ _ hs hown _ 1 c (partCells p) hx rfl ?_ (partsV_one p) (by unfold maxLen; omega) (by omega) hbase ?_
  · intro j u hj
    rw [Addr.add_lit, Nat.zero_add, cell_of_row w g j _ _ _ hb, ← hj]
    simp
  · intro v' w' h1 h2 _
    refine h v' w' ?_ h2
    unfold OwnP
    rw [List.length_append, partsV_app]
    have : partsV [p] = partCells p := by unfold partsV; simp
    rw [this]
    exact h1

/-- A slice of parts. -/
def PartsSl (w : World) (a : Option Addr) (l : List GPart) : Prop := ∀ (i : Nat) (p : GPart), l[i]? = some p → ∃ b, a = some ⟨b, 0, none⟩ ∧ b < w.heap.size ∧
  w.cell? ⟨b, i * 3, none⟩ = some (.int .i64 (p.char : Int)) ∧ w.cell? ⟨b, i * 3 + 1, none⟩ = some (.bool p.wild) ∧ w.cell? ⟨b, i * 3 + 2, none⟩ = some (.bool p.many)
theorem PartsSl.below {w w' : World} {a : Option Addr} {l : List GPart} (h : PartsSl w a l) (hb : Below w.heap.size w w') : PartsSl w' a l := by
  intro i p hp
  obtain ⟨b, e, hlt, h1, h2, h3⟩ := h i p hp
  exact ⟨b, e, Nat.lt_of_lt_of_le hlt hb.size, (hb.cell (p := ⟨b, i * 3, none⟩) hlt).trans h1, (hb.cell (p := ⟨b, i * 3 + 1, none⟩) hlt).trans h2, (hb.cell (p := ⟨b, i * 3 + 2, none⟩) hlt).trans h3⟩
theorem PartsSl.ne {w : World} {a : Option Addr} {l : List GPart} {g n : Nat} {f : Nat → Bool} (h : PartsSl w a l) (hr : w.rowIs g 4 (n + 1) (fun i => .bool (f i))) : ∀ b, a = some ⟨b, 0, none⟩ → l ≠ [] → b ≠ g := by
  rintro b e hne rfl
  cases l with
  | nil => exact hne rfl
  | cons p l =>
    obtain ⟨b', e', _, h1, _, _⟩ := h 0 p rfl
    rw [e] at e'
    cases e'
    have := hr.cell (i := 0) (by omega)
    rw [show (0 : Nat) * 3 = 0 from rfl, this] at h1
    cases h1
theorem PartsSl.grown {w w' : World} {a : Option Addr} {l : List GPart} {g : Nat} (h : PartsSl w a l) (hg : w.grownBy w' (some g)) (hne : ∀ b, a = some ⟨b, 0, none⟩ → l ≠ [] → b ≠ g) : PartsSl w' a l := by
  intro i p hp
  obtain ⟨b, e, hlt, h1, h2, h3⟩ := h i p hp
  have hb : b ≠ g := hne b e (fun e => by rw [e] at hp; simp at hp)
  have hk := hg.block b hlt (fun e => hb (by injection e))
  exact ⟨b, e, Nat.lt_of_lt_of_le hlt hg.size, (World.cell?_of_block hk).trans h1, (World.cell?_of_block hk).trans h2, (World.cell?_of_block hk).trans h3⟩
/-- A slice of characters. -/
def CharsSl (w : World) (a : Option Addr) (l : List Nat) : Prop := ∀ (i c : Nat), l[i]? = some c → ∃ b, a = some ⟨b, 0, none⟩ ∧ b < w.heap.size ∧ w.cell? ⟨b, i, none⟩ = some (.int .i64 (c : Int))
theorem CharsSl.ne {w : World} {a : Option Addr} {l : List Nat} {g n : Nat} {f : Nat → Bool} (h : CharsSl w a l) (hr : w.rowIs g 4 (n + 1) (fun i => .bool (f i))) : ∀ b, a = some ⟨b, 0, none⟩ → l ≠ [] → b ≠ g := by
  rintro b e hne rfl
  cases l with
  | nil => exact hne rfl
  | cons p l =>
    obtain ⟨b', e', _, h1⟩ := h 0 p rfl
    rw [e] at e'
    cases e'
    have := hr.cell (i := 0) (by omega)
    rw [this] at h1
    cases h1
theorem CharsSl.grown {w w' : World} {a : Option Addr} {l : List Nat} {g : Nat} (h : CharsSl w a l) (hg : w.grownBy w' (some g)) (hne : ∀ b, a = some ⟨b, 0, none⟩ → l ≠ [] → b ≠ g) : CharsSl w' a l := by
  intro i p hp
  obtain ⟨b, e, hlt, h1⟩ := h i p hp
  have hb : b ≠ g := hne b e (fun e => by rw [e] at hp; simp at hp)
  have hk := hg.block b hlt (fun e => hb (by injection e))
  exact ⟨b, e, Nat.lt_of_lt_of_le hlt hg.size, (World.cell?_of_block hk).trans h1⟩
theorem OwnP.sl {w : World} {base n c : Nat} {a : Option Addr} {l : List GPart} (h : OwnP w base (.slice a n c) l) : n = l.length ∧ n ≤ c ∧ c ≤ maxLen ∧ PartsSl w a l := by
  unfold OwnP at h
  rcases h.2 with ⟨e0, e1⟩ | ⟨g, cap, cur, e0, hg, hh, h1, h2, _⟩
  · cases e0
    refine ⟨e1.symm, Nat.le_refl _, by unfold maxLen; omega, fun i p hp => ?_⟩
    have := (List.getElem?_eq_some_iff.1 hp).1
    omega
  · cases e0
    refine ⟨rfl, h1, h2, fun i p hp => ?_⟩
    have hc := h.cells (g := g) rfl
    have c0 := hc (i * 3 + 0) _ ((partsV_at hp 0 (by omega)).trans rfl)
    have c1 := hc (i * 3 + 1) _ ((partsV_at hp 1 (by omega)).trans rfl)
    have c2 := hc (i * 3 + 2) _ ((partsV_at hp 2 (by omega)).trans rfl)
    simp only [Addr.add_lit, Nat.zero_add, Nat.add_zero] at c0 c1 c2
    exact ⟨g, rfl, lt_of_block hh, c0, c1, c2⟩

theorem CharsSl.below {w w' : World} {a : Option Addr} {l : List Nat} (h : CharsSl w a l) (hb : Below w.heap.size w w') : CharsSl w' a l := by
  intro i p hp
  obtain ⟨b, e, hlt, h1⟩ := h i p hp
  exact ⟨b, e, Nat.lt_of_lt_of_le hlt hb.size, (hb.cell (p := ⟨b, i, none⟩) hlt).trans h1⟩
theorem chars_sl {w : World} {base n : Nat} {v : Value} {l : List Nat} (h : w.ownsRow base 3 1 v n (l.map intV)) (hn : n = l.length) : ∃ a c, v = .slice a l.length c ∧ l.length ≤ c ∧ c ≤ maxLen ∧ CharsSl w a l := by
  subst hn
  have h' := h
  rcases h.2 with ⟨e0, e1⟩ | ⟨g, cap, cur, e0, hg, hh, h1, h2, _⟩
  · refine ⟨none, 0, by rw [e0, e1], by omega, by unfold maxLen; omega, fun i c hc => ?_⟩
    have := (List.getElem?_eq_some_iff.1 hc).1
    omega
  · refine ⟨_, cap, e0, h1, h2, fun i c hc => ?_⟩
    have hlt := (List.getElem?_eq_some_iff.1 hc).1
    subst e0
    refine ⟨g, rfl, lt_of_block hh, ?_⟩
    rw [h'.cellAt i (by omega), List.getElem?_map, hc]; rfl
end Go.Proofs.YtkgifenidmbdkaaGreatDoor

/- subst.turned, within, alike. -/
namespace Go.Proofs.YtkgifenidmbdkaaGreatDoor
open Go.RowKit

def letB : ByteArray := ⟨#[97, 98, 99, 100, 101, 102, 103, 104, 105, 106, 107, 108, 109, 110, 111, 112, 113, 114, 115, 116, 117, 118, 119, 120, 121, 122, 65, 66, 67, 68, 69, 70, 71, 72, 73, 74, 75, 76, 77, 78, 79, 80, 81, 82, 83, 84, 85, 86, 87, 88, 89, 90]⟩
theorem let_byte : ∀ c : Fin 128, hasB letB (UInt8.ofNat c.1) = isLet c.1 := by decide +kernel
theorem turn_xor : ∀ c : Fin 128, isLet c.1 = true → bits .xor .i64 (c.1 : Int) 32 = ((turnC c.1 : Nat) : Int) := by decide +kernel
theorem and_low (c : Nat) (h : c < 9223372036854775808) : bits .and .i64 (c : Int) 127 = ((c % 128 : Nat) : Int) := by
  show IntKind.i64.wrap ((BitVec.ofInt 64 (c : Int) &&& BitVec.ofInt 64 127).toNat : Int) = _
  rw [BitVec.ofInt_natCast, show (127 : Int) = ((127 : Nat) : Int) from rfl, BitVec.ofInt_natCast, BitVec.toNat_and, BitVec.toNat_ofNat, BitVec.toNat_ofNat, Nat.mod_eq_of_lt (a := c) (by omega), Nat.mod_eq_of_lt (a := 127) (by omega), show (127 : Nat) = 2 ^ 7 - 1 by rfl, Nat.and_two_pow_sub_one_eq_mod]
  simp only [IntKind.wrap, IntKind.signed, IntKind.bits]
  simp
  omega
theorem turn_other {c : Nat} (h : isLet c = false) : turnC c = c := by
  unfold isLet at h
  simp at h
  unfold turnC
  rw [if_neg (by omega), if_neg (by omega)]
theorem let_small {c : Nat} (h : 128 ≤ c) : isLet c = false := by
  unfold isLet; simp; omega
theorem turn_lt {c : Nat} (h : c < 128) : turnC c < 128 := by unfold turnC; split <;> (try split) <;> omega
theorem let_nat {d : Nat} (h : d < 128) : hasB letB (UInt8.ofNat d) = isLet d := let_byte ⟨d, h⟩
theorem xor_nat {d : Nat} (h : d < 128) (h2 : isLet d = true) : bits .xor .i64 (d : Int) 32 = ((turnC d : Nat) : Int) := turn_xor ⟨d, h⟩ h2
theorem nat_u8 (d : Nat) : ((d : Int).toNat.toUInt8) = UInt8.ofNat d := by simp
set_option maxHeartbeats 1600000 in
set_option maxRecDepth 100000 in
theorem sub_turned (c : Nat) (hc : c ≤ 1114111) (w : World) : Calls Tryz.prog 152 #[.int .i64 (c : Int)] w fun e w' => e = .returned (.int .i64 (turnC c : Nat)) ∧ w = w' := by
  have hand := and_low c (by omega)
  have hyes : c < 128 → isLet c = true → bits .xor .i64 (c : Int) 32 = ((turnC c : Nat) : Int) := fun h h2 => xor_nat h h2
  have hno : isLet c = false → turnC c = c := turn_other
  have hlow : c < 128 → isLet (c % 128) = isLet c := fun h => by rw [Nat.mod_eq_of_lt h]
  have hbig : ¬ c < 128 → isLet c = false := fun h => let_small (by omega)
  obtain ⟨d, hd, hd2⟩ : ∃ d, c % 128 = d ∧ d < 128 := ⟨_, rfl, Nat.mod_lt _ (by omega)⟩
  rw [hd] at hand hlow
  have hw : IntKind.u8.wrap (d : Int) = (d : Int) := IntWalk.u8_in _ (by omega)
  have hcall := fun W => Tryz.strings_IndexByte letB (d : Int) W
  rw [nat_u8] at hcall
  have hix := index_has letB (UInt8.ofNat d)
  rw [let_nat hd2] at hix
  have HC := Lib.hid hcall
  have HL := Lib.hid hlow
  have HB := Lib.hid hbig
  have HN := Lib.hid hno
  have HY := Lib.hid hyes
  clear hcall hlow hbig hno hyes hd hd2
  generalize Lib.indexByte letB.data.toList (UInt8.ofNat d) = ix at *
  by_cases h : c < 128
  · have hI : (c : Int) < 128 := by omega
    rcases hix with ⟨h1, h2⟩ | ⟨h1, h2⟩
    · have hx := HY.out h ((HL.out h).symm.trans h1)
      clear h1 h
      go_enter Tryz.func152, Tryz.ntmps152
      go_wp2_with fail
      refine (HC.out _).mono ?_
      rintro e w2 ⟨rfl, rfl⟩
      go_wp2_with fail
      go_ret
      exact ⟨rfl, rfl⟩
    · have hx := Lib.hid (HN.out ((HL.out h).symm.trans h1))
      clear h1 h
      go_enter Tryz.func152, Tryz.ntmps152
      go_wp2_with fail
      refine (HC.out _).mono ?_
      rintro e w2 ⟨rfl, rfl⟩
      go_wp2_with fail
      go_ret
      exact ⟨ret_i64 (by rw [hx.out]), rfl⟩
  · have hI : ¬ (c : Int) < 128 := by omega
    have hx := Lib.hid (HN.out (HB.out h))
    clear h
    rcases hix with ⟨h1, h2⟩ | ⟨h1, h2⟩
    · clear h1
      go_enter Tryz.func152, Tryz.ntmps152
      go_wp2_with fail
      refine (HC.out _).mono ?_
      rintro e w2 ⟨rfl, rfl⟩
      go_wp2_with fail
      go_ret
      exact ⟨ret_i64 (by rw [hx.out]), rfl⟩
    · clear h1
      go_enter Tryz.func152, Tryz.ntmps152
      go_wp2_with fail
      refine (HC.out _).mono ?_
      rintro e w2 ⟨rfl, rfl⟩
      go_wp2_with fail
      go_ret
      exact ⟨ret_i64 (by rw [hx.out]), rfl⟩
end Go.Proofs.YtkgifenidmbdkaaGreatDoor

/- subst's matcher: within, alike. -/
namespace Go.Proofs.YtkgifenidmbdkaaGreatDoor
open Go.RowKit

set_option maxHeartbeats 1600000 in
set_option maxRecDepth 100000 in
theorem sub_within (g c : Nat) (among : ByteArray) (fold : Bool) (w : World) (hc : c ≤ 1114111) (hf : w.cell? ⟨g, 2, none⟩ = some (.bool fold)) :
    Calls Tryz.prog 121 #[.pointer (some ⟨g, 0, none⟩), .int .i64 (c : Int), .string among] w fun e w' => e = .returned (.bool (withinB fold among c)) ∧ w = w' := by
  by_cases h : c < 128
  · have hI : (c : Int) < 128 := by omega
    have hw : IntKind.u8.wrap (c : Int) = (c : Int) := IntWalk.u8_in _ (by omega)
    have ht := turn_lt h
    have hw2 : IntKind.u8.wrap ((turnC c : Nat) : Int) = ((turnC c : Nat) : Int) := IntWalk.u8_in _ (by omega)
    have hcall := fun W => Tryz.strings_IndexByte among (c : Int) W
    rw [nat_u8] at hcall
    have hcall2 := fun W => Tryz.strings_IndexByte among ((turnC c : Nat) : Int) W
    rw [nat_u8] at hcall2
    have hix := index_has among (UInt8.ofNat c)
    have hix2 := index_has among (UInt8.ofNat (turnC c))
    have hB : withinB fold among c = (hasB among (UInt8.ofNat c) || (fold && hasB among (UInt8.ofNat (turnC c)))) := by unfold withinB; rw [decide_eq_true h, Bool.true_and]
    have HC := Lib.hid hcall
    have HC2 := Lib.hid hcall2
    have HT := Lib.hid (fun W => sub_turned c hc W)
    clear hcall hcall2 h ht
    generalize Lib.indexByte among.data.toList (UInt8.ofNat c) = ix at *
    generalize Lib.indexByte among.data.toList (UInt8.ofNat (turnC c)) = ix2 at *
    generalize hasB among (UInt8.ofNat c) = b1 at *
    generalize hasB among (UInt8.ofNat (turnC c)) = b2 at *
    generalize turnC c = tc at *
    have HB := Lib.hid hB
    clear hB
    rcases hix with ⟨rfl, h2⟩ | ⟨rfl, h2⟩
    · clear hix2
      have hB := Lib.hid (show withinB fold among c = true by rw [HB.out]; simp)
      go_enter Tryz.func121, Tryz.ntmps121
      go_wp2_with fail
      refine (HC.out _).mono ?_
      rintro e w2 ⟨rfl, rfl⟩
      go_wp2_with fail
      go_ret
      exact ⟨ret_bool (by rw [hB.out]; try first | done | rfl | (simp; done) | (simp; omega)), rfl⟩
    · cases fold with
      | false =>
        clear hix2
        have hB := Lib.hid (show withinB false among c = false by rw [HB.out]; simp)
        go_enter Tryz.func121, Tryz.ntmps121
        go_wp2_with fail
        refine (HC.out _).mono ?_
        rintro e w2 ⟨rfl, rfl⟩
        go_wp2_with fail
        go_ret
        exact ⟨ret_bool (by rw [hB.out]; try first | done | rfl | (simp; done) | (simp; omega)), rfl⟩
      | true =>
        rcases hix2 with ⟨rfl, h3⟩ | ⟨rfl, h3⟩
        · have hB := Lib.hid (show withinB true among c = true by rw [HB.out]; simp)
          go_enter Tryz.func121, Tryz.ntmps121
          go_wp2_with fail
          refine (HC.out _).mono ?_
          rintro e w2 ⟨rfl, rfl⟩
          go_wp2_with fail
          refine (HT.out _).mono ?_
          rintro e w3 ⟨rfl, rfl⟩
          go_wp2_with fail
          refine (HC2.out _).mono ?_
          rintro e w4 ⟨rfl, rfl⟩
          go_wp2_with fail
          go_ret
          exact ⟨ret_bool (by rw [hB.out]; try first | done | rfl | (simp; done) | (simp; omega)), rfl⟩
        · have hB := Lib.hid (show withinB true among c = false by rw [HB.out]; simp)
          go_enter Tryz.func121, Tryz.ntmps121
          go_wp2_with fail
          refine (HC.out _).mono ?_
          rintro e w2 ⟨rfl, rfl⟩
          go_wp2_with fail
          refine (HT.out _).mono ?_
          rintro e w3 ⟨rfl, rfl⟩
          go_wp2_with fail
          refine (HC2.out _).mono ?_
          rintro e w4 ⟨rfl, rfl⟩
          go_wp2_with fail
          go_ret
          exact ⟨ret_bool (by rw [hB.out]; try first | done | rfl | (simp; done) | (simp; omega)), rfl⟩
  · have hI : ¬ (c : Int) < 128 := by omega
    have hB := Lib.hid (show withinB fold among c = false by unfold withinB; rw [decide_eq_false h]; rfl)
    clear h
    go_enter Tryz.func121, Tryz.ntmps121
    go_wp2_with fail
    go_ret
    exact ⟨ret_bool (by rw [hB.out]; try first | done | rfl | (simp; done) | (simp; omega)), rfl⟩
set_option maxHeartbeats 1600000 in
set_option maxRecDepth 100000 in
theorem sub_alike (g p c : Nat) (fold : Bool) (w : World) (hp : p ≤ 1114111) (hf : w.cell? ⟨g, 2, none⟩ = some (.bool fold)) :
    Calls Tryz.prog 149 #[.pointer (some ⟨g, 0, none⟩), .int .i64 (p : Int), .int .i64 (c : Int)] w fun e w' => e = .returned (.bool (alikeB fold p c)) ∧ w = w' := by
  have HT := Lib.hid (fun W => sub_turned p hp W)
  have hB : alikeB fold p c = (decide (p = 63) || (decide (p = c) || (fold && decide (turnC p = c)))) := rfl
  have HB := Lib.hid hB
  have e1 : ((p : Int) == 63) = decide (p = 63) := by rw [Bool.eq_iff_iff]; simp; omega
  have e2 : ((p : Int) == (c : Int)) = decide (p = c) := by rw [Bool.eq_iff_iff]; simp; omega
  have e3 : (((turnC p : Nat) : Int) == (c : Int)) = decide (turnC p = c) := by rw [Bool.eq_iff_iff]; simp; omega
  clear hB
  generalize turnC p = tp at *
  generalize decide (p = 63) = b1 at *
  generalize decide (p = c) = b2 at *
  generalize decide (tp = c) = b3 at *
  cases b1 with
  | true =>
    have hB := Lib.hid (show alikeB fold p c = true by rw [HB.out]; simp)
    clear e2 e3
    go_enter Tryz.func149, Tryz.ntmps149
    go_wp2_with fail
    go_ret
    exact ⟨ret_bool (by rw [hB.out]; try first | done | rfl | (simp; done) | (simp; omega)), rfl⟩
  | false =>
    cases b2 with
    | true =>
      have hB := Lib.hid (show alikeB fold p c = true by rw [HB.out]; simp)
      clear e3
      go_enter Tryz.func149, Tryz.ntmps149
      go_wp2_with fail
      go_ret
      exact ⟨ret_bool (by rw [hB.out]; try first | done | rfl | (simp; done) | (simp; omega)), rfl⟩
    | false =>
      cases fold with
      | false =>
        have hB := Lib.hid (show alikeB false p c = false by rw [HB.out]; simp)
        clear e3
        go_enter Tryz.func149, Tryz.ntmps149
        go_wp2_with fail
        go_ret
        exact ⟨ret_bool (by rw [hB.out]; try first | done | rfl | (simp; done) | (simp; omega)), rfl⟩
      | true =>
        have hB := Lib.hid (show alikeB true p c = b3 by rw [HB.out]; simp)
        go_enter Tryz.func149, Tryz.ntmps149
        go_wp2_with fail
        refine (HT.out _).mono ?_
        rintro e w3 ⟨rfl, rfl⟩
        go_wp2_with fail
        go_ret
        exact ⟨ret_bool (by rw [hB.out]; try first | done | rfl | (simp; done) | (simp; omega)), rfl⟩
end Go.Proofs.YtkgifenidmbdkaaGreatDoor

/- glob.skip. -/
namespace Go.Proofs.YtkgifenidmbdkaaGreatDoor
open Go.RowKit

def boolsF (f : Nat → Bool) : Nat → Value := fun i => .bool (f i)
theorem rowIs_far {w w' : World} {b n : Nat} {t : TypeId} {f : Nat → Value} {row : Option Nat} (h : w.rowIs b t n f) (hg : w.grownBy w' row) (hr : some b ≠ row) : w'.rowIs b t n f :=
  h.of_block (hg.block b h.lt hr)
theorem only_alloc {a w : World} {row : Option Nat} (h : a.grownBy w row) (o : Obj) : a.grownBy (w.alloc o) row :=
  ⟨h.os, h.tape, h.output, Nat.le_trans h.size (by simp), fun i hi hne => (Below.heap_alloc w o i (Nat.lt_of_lt_of_le hi h.size)).trans (h.block i hi hne)⟩
theorem only_setCell {a w : World} {g : Nat} (h : a.grownBy w (some g)) {p : Addr} (hp : p.block = g ∨ a.heap.size ≤ p.block) (u : Value) : a.grownBy (w.setCell p u) (some g) :=
  ⟨h.os, h.tape, h.output, by simpa [World.setCell] using h.size, fun i hi hne => (Below.heap_setCell w p u i (by
    rintro rfl
    rcases hp with hp | hp
    · exact hne (by rw [hp])
    · omega)).trans (h.block i hi hne)⟩

theorem skip_row {w : World} {g n i : Nat} {t : TypeId} {ps : List GPart} {f0 : Nat → Bool} {v : Bool} (h : w.rowIs g t n (fun j => if j = i + 1 then .bool v else boolsF (fun m => if m ≤ i then skipF ps f0 m else f0 m) j)) (hv : skipF ps f0 (i + 1) = v) :
    w.rowIs g t n (boolsF fun m => if m ≤ i + 1 then skipF ps f0 m else f0 m) := by
  refine h.congr fun j _ => ?_
  by_cases hj : j = i + 1
  · subst hj
    rw [if_pos rfl]
    show _ = Value.bool (if i + 1 ≤ i + 1 then _ else _)
    rw [if_pos (Nat.le_refl _), hv]
  · rw [if_neg hj]
    show Value.bool (if j ≤ i then _ else _) = Value.bool (if j ≤ i + 1 then _ else _)
    by_cases h2 : j ≤ i
    · rw [if_pos h2, if_pos (by omega)]
    · rw [if_neg h2, if_neg (by omega)]

set_option maxHeartbeats 3200000 in
theorem glob_skip (a : Option Addr) (n cap : Nat) (ps : List GPart) (g c2 : Nat) (f0 : Nat → Bool) (w : World) (hn : ps.length = n) (hn2 : n ≤ 16777216) (hsl : PartsSl w a ps) (hrow : w.rowIs g 4 (n + 1) (boolsF f0)) :
    Calls Tryz.prog 116 #[.slice a n cap, .slice (some ⟨g, 0, none⟩) (n + 1) c2] w fun e w' => e = .returned (.tuple #[]) ∧ w'.rowIs g 4 (n + 1) (boolsF (skipF ps f0)) ∧ w.grownBy w' (some g) := by
  have hne := hsl.ne hrow
  have hgw := hrow.lt
  have HNE := Lib.hid hne
  have HN := Lib.hid hn
  clear hne hn
  go_enter Tryz.func116, Tryz.ntmps116
  go_wp2_with fail
  go_loopw [8] (fun x wr => ∃ i : Nat, i ≤ n ∧ x = .int .i64 i ∧ wr.rowIs g 4 (n + 1) (boolsF fun m => if m ≤ i then skipF ps f0 m else f0 m) ∧ w.grownBy wr (some g)) (fun x _ => n - (intOf x).toNat)
  case atStart => exact ⟨0, Nat.zero_le _, rfl, hrow.congr (fun i _ => by
    unfold boolsF
    by_cases h : i ≤ 0
    · obtain rfl : i = 0 := by omega
      rfl
    · show Value.bool (f0 i) = Value.bool (if i ≤ 0 then _ else _)
      rw [if_neg h]), grown_refl _ _⟩
  case round =>
    obtain ⟨i, hil, rfl, hr, hg⟩ := hrel
    by_cases hlt : i < n
    · obtain ⟨p, hp⟩ : ∃ p, ps[i]? = some p := ⟨_, List.getElem?_eq_getElem (by rw [HN.out]; exact hlt)⟩
      obtain ⟨b, rfl, hbw, h1, h2, h3⟩ := (hsl.grown hg HNE.out) i p hp
      have hbg : b ≠ g := HNE.out b rfl (fun e => by rw [e] at hp; simp at hp)
      have hma := manyAt_of hp
      have hsk := skipF_succ ps f0 i
      have c0 := hr.cell (i := i) (by omega)
      have c1 := hr.cell (i := i + 1) (by omega)
      have hset := fun o u => (hr.set (i + 1) u).alloc o
      have hfz := hr.frozen (i + 1)
      have e0 : boolsF (fun m => if m ≤ i then skipF ps f0 m else f0 m) i = .bool (skipF ps f0 i) := by unfold boolsF; simp
      have e1 : boolsF (fun m => if m ≤ i then skipF ps f0 m else f0 m) (i + 1) = .bool (f0 (i + 1)) := by
        show Value.bool (if i + 1 ≤ i then _ else _) = _
        rw [if_neg (by omega)]
      rw [e0] at c0
      rw [e1] at c1
      rw [← hma] at h3
      generalize skipF ps f0 i = y at *
      generalize f0 (i + 1) = x at *
      generalize manyAt ps i = m at *
      have HSET := Lib.hid hset
      have HSK := Lib.hid hsk
      have HP := Lib.hid hp
      clear hset hsk hp e0 e1 hma HN hrow
      have hgr := fun o u => only_alloc (only_setCell hg (p := ⟨g, i + 1, none⟩) (.inl rfl) u) o
      have hglt := hr.lt
      have HGR := Lib.hid hgr
      clear hgr hr hg
      cases x <;> cases y <;> cases m
      all_goals
        go_wp2_with fail
        go_roundw
        case rel => exact ⟨i + 1, by omega, by go_num, skip_row (HSET.out _ _) HSK.out, HGR.out _ _⟩
        case measure => simp [intOf]; omega
    · obtain rfl : i = n := by omega
      go_wp2_with fail
      go_end0
      exact ⟨rfl, hr.congr (fun j hj => by
        show Value.bool (if j ≤ i then _ else _) = _
        rw [if_pos (by omega)]; rfl), hg⟩
end Go.Proofs.YtkgifenidmbdkaaGreatDoor
