/- Rows of numbers of the call's own: appending a row to one; parts of one. -/
import Derived.Test.YtbonnmkkacplgaaGreatDoorLabelNamesM3
import Derived.Test.YtbonnmkkacplgaaGreatDoorLabelNamesM6
import Derived.Test.YtbonnmkkacplgaaGreatDoorLabelNamesM8
import Derived.Test.YtbonnmkkacplgaaGreatDoorLabelNamesM10
import Derived.Test.YtbonnmkkacplgaaGreatDoorLabelNamesM2
import Derived.Test.YtbonnmkkacplgaaGreatDoorLabelNamesM1
import Derived.Test.YtbonnmkkacplgaaGreatDoorShelf
import Derived.Lib.IndexLaws

namespace Go.Proofs.YtbonnmkkacplgaaGreatDoor
open Go.RowKit

def intsN (l : List Nat) : List Int := l.map fun c : Nat => (c : Int)
theorem intsN_len (l : List Nat) : (intsN l).length = l.length := by simp [intsN]
theorem intsN_app (a b : List Nat) : intsN (a ++ b) = intsN a ++ intsN b := by simp [intsN]
theorem intsN_at (l : List Nat) (j : Nat) (h : j < l.length) : (intsN l).getD j 0 = (l[j] : Int) := by simp [intsN, List.getD, h]
theorem OwnN.cellAt {w : World} {base : Nat} {a : Option Addr} {n c : Nat} {l : List Nat} (h : OwnN w base (.slice a n c) l) {j : Nat} (hj : j < l.length) : ∃ g, a = some ⟨g, 0, none⟩ ∧ base ≤ g ∧ g < w.heap.size ∧ l.length ≤ c ∧ c ≤ maxLen ∧ w.cell? ⟨g, j, none⟩ = some (.int .i64 (l[j] : Int)) := by
  rcases h.2 with ⟨e, h0⟩ | ⟨g, cap, cur, e, hg, hh, h1, h2, _⟩
  · omega
  · cases e
    have := World.ownsRow.cellAt h j (by omega)
    refine ⟨g, rfl, hg, lt_of_block hh, h1, h2, ?_⟩
    rw [this]
    simp [hj, intV]
/-- A part of a row of the call's own. -/
theorem OwnN.part {w : World} {base g c : Nat} {n : Nat} {l : List Nat} (h : OwnN w base (.slice (some ⟨g, 0, none⟩) n c) l) (i j cp : Nat) (hij : i ≤ j) (hj : j ≤ l.length) (hcp : j - i ≤ cp) (hcm : cp ≤ maxLen) : IntsSl w (.slice (some ⟨g, i, none⟩) (j - i) cp) (intsN ((l.take j).drop i)) := by
  have hlen : ((l.take j).drop i).length = j - i := by simp; omega
  by_cases h0 : j - i = 0
  · refine .inl ⟨?_, some ⟨g, i, none⟩, cp, by rw [h0]⟩
    rw [List.eq_nil_of_length_eq_zero (by omega : ((l.take j).drop i).length = 0)]; rfl
  · have hl0 : 0 < l.length := by omega
    obtain ⟨g', e, _, hg, _, _, _⟩ := h.cellAt (j := 0) hl0
    cases e
    refine .inr ⟨g, i, cp, by rw [intsN_len, hlen], by rw [intsN_len, hlen]; exact hcp, hcm, hg, fun k hk => ?_⟩
    rw [intsN_len, hlen] at hk
    obtain ⟨g', e, _, _, _, _, hc⟩ := h.cellAt (j := i + k) (by omega)
    cases e
    rw [hc, intsN_at _ _ (by omega)]
    simp
theorem OwnN.sl {w : World} {base : Nat} {v : Value} {l : List Nat} (h : OwnN w base v l) : IntsSl w v (intsN l) := by
  rcases h.2 with ⟨e, h0⟩ | ⟨g, cap, cur, e, hg, hh, h1, h2, _⟩
  · rw [List.eq_nil_of_length_eq_zero h0]; subst e; exact .inl ⟨rfl, none, 0, rfl⟩
  · subst e
    refine .inr ⟨g, 0, cap, by rw [intsN_len], by rw [intsN_len]; exact h1, h2, lt_of_block hh, fun k hk => ?_⟩
    rw [intsN_len] at hk
    obtain ⟨g', e, _, _, _, _, hc⟩ := h.cellAt (j := k) hk
    cases e
    rw [Nat.zero_add, hc, intsN_at _ _ hk]
theorem OwnN.lit0 (w : World) (base : Nat) (hb : base ≤ w.heap.size) : OwnN (w.alloc (.cells #[] 3)) base (.slice (some ⟨w.heap.size, 0, none⟩) 0 0) [] :=
  World.ownsRow_lit w #[] 0 hb (Nat.zero_le _) rfl
/-- A row of any numbers of the call's own. -/
def OwnZ (w : World) (base : Nat) (v : Value) (l : List Int) : Prop := w.ownsRow base 3 1 v l.length (l.map (Value.int .i64))
theorem ownZ_N {w : World} {base : Nat} {v : Value} {l : List Nat} : OwnZ w base v (intsN l) ↔ OwnN w base v l := by
  unfold OwnZ OwnN
  rw [intsN_len]
  have : (intsN l).map (Value.int .i64) = l.map intV := by unfold intsN; rw [List.map_map]; rfl
  rw [this]
theorem OwnZ.below {w w' : World} {base : Nat} {v : Value} {l : List Int} (h : OwnZ w base v l) (hb : Below w.heap.size w w') : OwnZ w' base v l := ownsRow_below h hb
theorem OwnZ.lit0 (w : World) (base : Nat) (hb : base ≤ w.heap.size) : OwnZ (w.alloc (.cells #[] 3)) base (.slice (some ⟨w.heap.size, 0, none⟩) 0 0) [] :=
  World.ownsRow_lit w #[] 0 hb (Nat.zero_le _) rfl
theorem OwnZ.sl {w : World} {base : Nat} {v : Value} {l : List Int} (h : OwnZ w base v l) : IntsSl w v l := by
  rcases h.2 with ⟨e, h0⟩ | ⟨g, cap, cur, e, hg, hh, h1, h2, _⟩
  · rw [List.eq_nil_of_length_eq_zero h0]; subst e; exact .inl ⟨rfl, none, 0, rfl⟩
  · subst e
    refine .inr ⟨g, 0, cap, rfl, h1, h2, lt_of_block hh, fun k hk => ?_⟩
    have := World.ownsRow.cellAt h k (by omega)
    rw [Nat.zero_add, this]
    simp [hk, List.getD]
theorem wpList_app_intsZ {w : World} {ops : Array Oper} {rest : List Oper} {o : Oper} {a : Act} {Q : Exit → Act → World → Prop} (hgd : o.guard = none) (s x : Operand) (ho : o.op = .call { callee := .builtin .append, args := #[s, x], argTypes := #[46, 46] })
    (base : Nat) (v : Value) (l : List Int) (hs : a.eval s = v) (hown : OwnZ w base v l) (y : Value) (S : List Int) (hx : a.eval x = y) (hy : IntsSl w y S)
    (hl : l.length + S.length ≤ 1073741824) (hbase : base ≤ w.heap.size)
    (h : ∀ v' w', OwnZ w' base v' (l ++ S) → w.grownBy w' v.ownBlock → wpList Tryz.prog ops Q rest (a.put o.dst v') w') : wpList Tryz.prog ops Q (o :: rest) a w := by
  obtain ⟨i, hi, hz, hsize, hby⟩ := info_parts info_int
  rcases hy with ⟨rfl, ad, cap, rfl⟩ | ⟨b, off, cap, rfl, hc, hcm, hbs, hp⟩
  · have hsrc : Src Tryz.prog i.size 46 (.slice ad 0 cap) 0 [] w := by
      cases ad with
      | none => exact Src.ofNil w Tryz.underlying46 cap
      | some ad => exact Src.ofSlice w Tryz.underlying46 ad 0 cap [] (by simp) (by simp) (by simp)
    refine wpList_plain hgd fun K hK => ?_
    have hrun : (Builtin.append_ #[46, 46] o.type #[v, .slice ad 0 cap]).run Tryz.prog w = .ok v w := by
      rcases hown.2 with ⟨e, _⟩ | ⟨g, c, cur, e, _, _, h1, _⟩
      · subst e
        exact run_append_nothing w _ _ _ 3 i Tryz.underlying46 hi none 0 0 (Nat.le_refl _) _ hsrc
      · subst e
        exact run_append_nothing w _ _ _ 3 i Tryz.underlying46 hi _ _ _ h1 _ hsrc
    unfold Oper.wp
    simp [execOp, ho, resolve, invoke, builtin, hs, hx, hrun, Result.andThen]
    refine hK _ _ (h v w (by rw [List.append_nil]; exact hown) (below_grownBy (Below.refl _ _) _))
  · refine wpList_append_own _ hgd s x 46 ho base 3 i (.int .i64 0) 1 8 Tryz.underlying46 hi hz hsize hby rfl (by decide) v _ _ hs hown _ _ cap (S.map (Value.int .i64)) hx (by simp) ?_ ?_ (by unfold maxLen; omega) (by omega) hbase ?_
    · intro j u hj
      have hj' : j < S.length := by
        have := (List.getElem?_eq_some_iff.1 hj).1
        simpa using this
      rw [Addr.add_lit, hp j hj', ← hj]
      simp [hj', List.getD]
    · intro u hu
      obtain ⟨_, _, rfl⟩ := List.mem_map.1 hu
      rfl
    · intro v' w' h1 h2 _
      refine h v' w' ?_ h2
      unfold OwnZ
      rw [List.length_append, List.map_append]
      exact h1
theorem wpList_app_ints {w : World} {ops : Array Oper} {rest : List Oper} {o : Oper} {a : Act} {Q : Exit → Act → World → Prop} (hgd : o.guard = none) (s x : Operand) (ho : o.op = .call { callee := .builtin .append, args := #[s, x], argTypes := #[46, 46] })
    (base : Nat) (v : Value) (l : List Nat) (hs : a.eval s = v) (hown : OwnN w base v l) (y : Value) (S : List Nat) (hx : a.eval x = y) (hy : IntsSl w y (intsN S))
    (hl : l.length + S.length ≤ 1073741824) (hbase : base ≤ w.heap.size)
    (h : ∀ v' w', OwnN w' base v' (l ++ S) → w.grownBy w' v.ownBlock → wpList Tryz.prog ops Q rest (a.put o.dst v') w') : wpList Tryz.prog ops Q (o :: rest) a w := by
  refine wpList_app_intsZ hgd s x ho base v (intsN l) hs (ownZ_N.2 hown) y (intsN S) hx hy (by rw [intsN_len, intsN_len]; exact hl) hbase fun v' w' h1 h2 => h v' w' ?_ h2
  rw [← intsN_app] at h1
  exact ownZ_N.1 h1
end Go.Proofs.YtbonnmkkacplgaaGreatDoor

/- Characters below 128, great letters: plain facts. -/
namespace Go.Proofs.YtbonnmkkacplgaaGreatDoor
open Go.RowKit

theorem nats_intsN (l : List Nat) : nats (intsN l) = l := by
  unfold nats intsN
  rw [List.map_map]
  conv => rhs; rw [← List.map_id l]
  exact List.map_congr_left fun x _ => by simp
theorem intsN_right : ∀ (l : List Nat), (∀ c ∈ l, rightB (c : Int) = true) → rightLen (intsN l) = (intsN l).length := by
  intro l
  induction l with
  | nil => intro _; rfl
  | cons c l ih =>
    intro h
    show (if rightB (c : Int) = true then rightLen (intsN l) + 1 else 0) = (intsN l).length + 1
    rw [if_pos (h c (by simp)), ih fun d hd => h d (by simp [hd])]
theorem enc_nats {l : List Nat} (h : ∀ c ∈ l, rightB (c : Int) = true) (hl : l.length ≤ 256) : encE (intsN l) = .ok (encN l) := by
  rw [encE_ok (by rw [intsN_len]; omega) (intsN_right l h), nats_intsN]
def asc (s : ByteArray) (k : Nat) : List Nat := (List.range k).map fun j => (byteAt s j).toNat % 128
theorem asc_succ (s : ByteArray) (k : Nat) : asc s (k + 1) = asc s k ++ [(byteAt s k).toNat % 128] := by unfold asc; rw [List.range_succ, List.map_append]; rfl
theorem asc_len (s : ByteArray) (k : Nat) : (asc s k).length = k := by unfold asc; simp
theorem asc_lt {s : ByteArray} {k c : Nat} (h : c ∈ asc s k) : c < 128 := by
  obtain ⟨j, _, rfl⟩ := List.mem_map.1 h
  exact Nat.mod_lt _ (by decide)
theorem and_127 (c : UInt8) : bits .and .u8 (c.toNat : Int) 127 = ((c.toNat % 128 : Nat) : Int) := by
  have : ∀ n : Fin 256, bits .and .u8 (n.1 : Int) 127 = ((n.1 % 128 : Nat) : Int) := by decide +kernel
  exact this ⟨c.toNat, c.toNat_lt⟩
theorem small_right {c : Nat} (h : c < 128) : rightB (c : Int) = true := (rightC_iff c).1 (.inl (by omega))
/-- Characters below 128 are encoded as they are, with a mark behind them. -/
theorem enc_small {l : List Nat} (h : ∀ c ∈ l, c < 128) (h0 : l ≠ []) : encN l = basicL l ++ [45] ∧ (basicL l).length = l.length := by
  have hm : markL l = [] := by
    cases hml : markL l with
    | nil => rfl
    | cons m ms =>
      have := (markL_mem l m).1 (by rw [hml]; simp)
      have := h m this.1
      omega
  have hb : (basicL l).length = l.length := by
    unfold basicL
    rw [List.length_map, List.filter_eq_self.2 (fun c hc => by simpa using h c hc)]
  refine ⟨?_, hb⟩
  unfold encN
  rw [hm]
  show basicO l = _
  unfold basicO
  rw [if_neg (by rw [hb]; intro e; exact h0 (List.eq_nil_of_length_eq_zero e))]
/-- The characters from 128 on among numbers. -/
def wideZ (l : List Int) : List Nat := (l.filter fun z => rightB z && decide (128 ≤ z)).map Int.toNat
theorem wideZ_snoc (l : List Int) (z : Int) : wideZ (l ++ [z]) = if rightB z = true ∧ 128 ≤ z then wideZ l ++ [z.toNat] else wideZ l := by
  unfold wideZ
  rw [List.filter_append, List.map_append]
  by_cases h : rightB z = true ∧ 128 ≤ z
  · rw [if_pos h]; simp [h.1, h.2]
  · rw [if_neg h]
    have : (rightB z && decide (128 ≤ z)) = false := by
      cases hr : rightB z with
      | false => rfl
      | true => simp; exact Int.not_le.1 fun h2 => h ⟨hr, h2⟩
    simp [this]
theorem wideZ_mem {l : List Int} {c : Nat} (h : c ∈ wideZ l) : rightB (c : Int) = true ∧ 128 ≤ c := by
  obtain ⟨z, hz, rfl⟩ := List.mem_map.1 h
  have := (List.mem_filter.1 hz).2
  simp at this
  rw [Int.toNat_of_nonneg (by omega)]
  exact ⟨this.1, by omega⟩
theorem wideZ_len (l : List Int) : (wideZ l).length ≤ l.length := by unfold wideZ; rw [List.length_map]; exact List.length_filter_le _ _
def upC (c : UInt8) : UInt8 := if 97 ≤ c.toNat ∧ c.toNat ≤ 122 then UInt8.ofNat (c.toNat - 32) else c
theorem upC_val (c : UInt8) : valN (upC c) = valN c := by
  have : ∀ n : Fin 256, valN (upC (UInt8.ofNat n.1)) = valN (UInt8.ofNat n.1) := by decide +kernel
  have := this ⟨c.toNat, c.toNat_lt⟩
  simpa using this
theorem basicO_wide {l : List Nat} (h : ∀ c ∈ l, 128 ≤ c) : basicO l = [] := by
  unfold basicO
  rw [if_pos]
  unfold basicL
  rw [List.length_map, List.filter_eq_nil_iff.2 (fun c hc => by have := h c hc; simp; omega)]
  rfl
/-- Great letters among the digits are as good as small ones. -/
theorem dec_great {l : List Nat} (h : ∀ c ∈ l, rightB (c : Int) = true ∧ 128 ≤ c) (hl : l.length ≤ 256) (h1024 : (encN l).length ≤ 1024) : decE ⟨((encN l).map upC).toArray⟩ = .ok l := by
  have hsz : (⟨((encN l).map upC).toArray⟩ : ByteArray).size = (encN l).length := by show ((encN l).map upC).toArray.size = _; simp
  have hO := basicO_wide fun c hc => (h c hc).2
  refine dec_enc l (fun c hc => (h c hc).1) hl _ hsz (by omega) (fun k _ hk => ?_) (fun k hk => by rw [hO] at hk; exact absurd hk (Nat.not_lt_zero _))
  have : byteAt ⟨((encN l).map upC).toArray⟩ k = upC ((encN l).getD k 0) := by simp [byteAt, List.getD, hk]
  rw [this, upC_val]
theorem roundK_inv {cs : List Nat} {basic m n : Nat} {s : PSt} (h : PInv cs n s) (hl : cs.length ≤ 256) (hnm : n ≤ m) (hm : m ≤ 1114111) : ∀ k, k ≤ cs.length → PIn cs m k (roundK cs basic m n s k) := by
  intro k
  induction k with
  | zero => intro _; exact h.start hl hnm
  | succ k ih =>
    intro hk
    have hk' : k < cs.length := hk
    rw [roundK_succ (List.getElem?_eq_getElem hk')]
    exact (ih (by omega)).step hm hl (List.getElem?_eq_getElem hk')
theorem encR_inv (cs : List Nat) (basic : Nat) (hl : cs.length ≤ 256) : ∀ (ms : List Nat) (n : Nat) (s : PSt), ms.Pairwise (· < ·) → (∀ m ∈ ms, n ≤ m ∧ m ≤ 1114111) → PInv cs n s → ∃ n', PInv cs n' (encR cs basic ms n s) := by
  intro ms
  induction ms with
  | nil => intro n s _ _ h; exact ⟨n, h⟩
  | cons m ms ih =>
    intro n s hp hm h
    have hp' := List.pairwise_cons.1 hp
    obtain ⟨h1, h2⟩ := hm m (by simp)
    have h3 := roundK_inv (basic := basic) h hl h1 h2 cs.length (Nat.le_refl _)
    rw [roundK_all] at h3
    exact ih (m + 1) _ hp'.2 (fun x hx => ⟨hp'.1 x hx, (hm x (by simp [hx])).2⟩) (h3.next hl)
theorem encN_len {cs : List Nat} (hl : cs.length ≤ 256) (h : ∀ c ∈ cs, rightB (c : Int) = true) : (encN cs).length ≤ 3000 := by
  obtain ⟨n', h1⟩ := encR_inv cs (basicL cs).length hl (markL cs) 128 ⟨0, 72, (basicL cs).length, basicO cs⟩ (markL_up cs) (fun m hm => by
    have := (markL_mem cs m).1 hm
    obtain ⟨c, e, _, h2⟩ := right_nat (h m this.1)
    exact ⟨this.2, by omega⟩) (PInv.zero cs hl)
  have h2 := h1.2.2.1
  have h3 := h1.2.2.2
  have h4 : (cs.filter fun c => decide (c < n')).length ≤ cs.length := List.length_filter_le _ _
  have e : (encN cs).length = (encR cs (basicL cs).length (markL cs) 128 ⟨0, 72, (basicL cs).length, basicO cs⟩).out.length := rfl
  omega
/-- Great letters up to a place. -/
def upTo (l : List UInt8) (i : Nat) : List UInt8 := (l.take i).map upC ++ l.drop i
theorem upTo_len (l : List UInt8) (i : Nat) : (upTo l i).length = l.length := by unfold upTo; simp; omega
theorem upTo_at {l : List UInt8} {i : Nat} (h : i < l.length) : (upTo l i).getD i 0 = l.getD i 0 := by
  unfold upTo
  simp only [List.getD]
  rw [List.getElem?_append_right (by simp; omega)]
  have : i - ((l.take i).map upC).length = 0 := by simp; omega
  rw [this]
  simp
theorem upTo_set {l : List UInt8} {i : Nat} (h : i < l.length) : (upTo l i).set i (upC (l.getD i 0)) = upTo l (i + 1) := by
  unfold upTo
  have e : ((l.take i).map upC).length = i := by simp; omega
  rw [List.set_append_right _ _ (by omega), e, Nat.sub_self, List.drop_eq_getElem_cons h, List.set_cons_zero, List.take_succ_eq_append_getElem h, List.map_append]
  simp [List.getD, h]
theorem upTo_keep {l : List UInt8} {i : Nat} (h : i < l.length) (h2 : upC (l.getD i 0) = l.getD i 0) : upTo l (i + 1) = upTo l i := by
  rw [← upTo_set h, h2, ← upTo_at h]
  apply List.ext_getElem?
  intro j
  rw [List.getElem?_set]
  split
  · rename_i e; subst e
    have hj : i < (upTo l i).length := by rw [upTo_len]; exact h
    rw [if_pos hj]
    simp [List.getD, hj]
  · rfl
theorem upTo_all (l : List UInt8) : upTo l l.length = l.map upC := by unfold upTo; simp
end Go.Proofs.YtbonnmkkacplgaaGreatDoor

/- Labels, in plain words. -/
namespace Go.Proofs.YtbonnmkkacplgaaGreatDoor
open Go.RowKit

def smallZ (c : Int) : Bool := decide ((97 ≤ c ∧ c ≤ 122) ∨ (48 ≤ c ∧ c ≤ 57) ∨ c = 45)
/-- May a character stand in a label? -/
def mayB (c : Nat) : Bool := smallZ c || charZ c
/-- Do a label's marks stand where they may? -/
def marksL (l : List Nat) : Bool := decide (0 < l.length ∧ l.getD 0 0 ≠ 45 ∧ l.getD (l.length - 1) 0 ≠ 45 ∧ (l.length < 4 ∨ l.getD 2 0 ≠ 45 ∨ l.getD 3 0 ≠ 45))
def xnL : List UInt8 := [120, 110, 45, 45]
/-- What stands behind a label's prefix. -/
def bodyS (s : ByteArray) : ByteArray := ⟨(s.data.toList.drop 4).toArray⟩
def wideL (l : List Nat) : Bool := l.any fun c => decide (128 ≤ c)
/-- The characters of a coded label. -/
def labD (s : ByteArray) : Option (List Nat) :=
  if Lib.hasPrefix s.data.toList xnL = true then
    match decE (bodyS s) with
    | .error _ => none
    | .ok l => if l.all mayB = true ∧ wideL l = true ∧ encN l = (bodyS s).data.toList ∧ marksL l = true then some l else none
  else none
theorem labD_no {s : ByteArray} (h : Lib.hasPrefix s.data.toList xnL = false) : labD s = none := by unfold labD; rw [if_neg (by rw [h]; decide)]
theorem labD_err {s : ByteArray} {e : Nat × Nat} (h : Lib.hasPrefix s.data.toList xnL = true) (h2 : decE (bodyS s) = .error e) : labD s = none := by unfold labD; rw [if_pos h, h2]
theorem labD_ok {s : ByteArray} {l : List Nat} (h : Lib.hasPrefix s.data.toList xnL = true) (h2 : decE (bodyS s) = .ok l) : labD s = if l.all mayB = true ∧ wideL l = true ∧ encN l = (bodyS s).data.toList ∧ marksL l = true then some l else none := by unfold labD; rw [if_pos h, h2]
theorem labD_inv {s : ByteArray} {l : List Nat} (h : labD s = some l) : Lib.hasPrefix s.data.toList xnL = true ∧ decE (bodyS s) = .ok l ∧ l.all mayB = true ∧ wideL l = true ∧ encN l = (bodyS s).data.toList ∧ marksL l = true := by
  unfold labD at h
  split at h
  · next h1 =>
    split at h
    · cases h
    · next l' h2 =>
      split at h
      · next h3 => cases h; exact ⟨h1, h2, h3⟩
      · cases h
  · cases h
/-- Are a label's third and fourth bytes marks? -/
def codedB (s : ByteArray) : Bool := decide (4 ≤ s.size ∧ byteAt s 2 = 45 ∧ byteAt s 3 = 45)
/-- What is wrong with a label of ASCII; (0, 0): nothing. -/
def badAt (s : ByteArray) : Nat → Nat → Option Nat
  | 0, _ => none
  | r + 1, k => if smallZ ((byteAt s k).toNat : Int) = true then badAt s r (k + 1) else some k
theorem bad_hit {s : ByteArray} {r k : Nat} (h : smallZ ((byteAt s k).toNat : Int) = false) : badAt s (r + 1) k = some k := by rw [badAt, if_neg (by rw [h]; decide)]
theorem bad_next {s : ByteArray} {r k : Nat} (h : smallZ ((byteAt s k).toNat : Int) = true) : badAt s (r + 1) k = badAt s r (k + 1) := by rw [badAt, if_pos h]
/-- Nothing wrong with a label's marks, and code. -/
def fineB (s : ByteArray) : Bool := decide (byteAt s 0 ≠ 45) && decide (byteAt s (s.size - 1) ≠ 45) && (!codedB s || (labD s).isSome)
def rightL (s : ByteArray) : Nat × Nat :=
  if s.size = 0 then (10, 0) else if 63 < s.size then (14, 63) else
  match badAt s s.size 0 with
  | some i => (11, i)
  | none => if fineB s = true then (0, 0) else (24, 0)
theorem rightL_empty {s : ByteArray} (h : s.size = 0) : rightL s = (10, 0) := by unfold rightL; rw [if_pos h]
theorem rightL_long {s : ByteArray} (h : s.size ≠ 0) (h2 : 63 < s.size) : rightL s = (14, 63) := by unfold rightL; rw [if_neg h, if_pos h2]
theorem rightL_bad {s : ByteArray} {i : Nat} (h : s.size ≠ 0) (h2 : ¬ 63 < s.size) (h3 : badAt s s.size 0 = some i) : rightL s = (11, i) := by unfold rightL; rw [if_neg h, if_neg h2, h3]
theorem rightL_fine {s : ByteArray} (h : s.size ≠ 0) (h2 : ¬ 63 < s.size) (h3 : badAt s s.size 0 = none) : rightL s = if fineB s = true then (0, 0) else (24, 0) := by unfold rightL; rw [if_neg h, if_neg h2, h3]
end Go.Proofs.YtbonnmkkacplgaaGreatDoor

/- Of the reference of chapter 02: Has, Same. -/
namespace Go.Proofs.YtbonnmkkacplgaaGreatDoor
open Go.RowKit

/-- Strings stand in the cells of a block, from a place on. -/
def StrRow (w : World) (b off n : Nat) (l : List ByteArray) : Prop := l.length = n ∧ ∀ i, i < n → w.cell? ⟨b, off + i, none⟩ = some (.string (l.getD i ByteArray.empty))
theorem StrRow.below {w w' : World} {b off n B : Nat} {l : List ByteArray} (h : StrRow w b off n l) (hb : Below B w w') (hg : b < B) : StrRow w' b off n l :=
  ⟨h.1, fun i hi => (hb.cell (p := ⟨b, off + i, none⟩) hg).trans (h.2 i hi)⟩
theorem StrRow.drewN {w : World} {b off n : Nat} {l : List ByteArray} (h : StrRow w b off n l) (m : Nat) : StrRow (w.drewN m) b off n l := h
theorem StrRow.of_own {w : World} {base : Nat} {e : TypeId} {g n cap : Nat} {l : List ByteArray} (h : w.ownsRow base e 1 (.slice (some ⟨g, 0, none⟩) n cap) n (l.map strV)) : StrRow w g 0 n l := by
  have hl : l.length = n := by have := h.1; simpa using this
  refine ⟨hl, fun i hi => ?_⟩
  rw [Nat.zero_add, h.cellAt i (by omega)]
  simp [strV, hl, hi]

def hasB (s : ByteArray) (c : UInt8) : Bool := (List.range s.size).any fun i => byteAt s i == c
theorem hasB_yes {s : ByteArray} {c : UInt8} {k : Nat} (hk : k < s.size) (h : byteAt s k = c) : hasB s c = true := by
  unfold hasB; rw [List.any_eq_true]; exact ⟨k, by simpa using hk, by simpa using h⟩
theorem hasB_no {s : ByteArray} {c : UInt8} (h : ∀ j, j < s.size → byteAt s j ≠ c) : hasB s c = false := by
  unfold hasB; rw [List.any_eq_false]; intro j hj; simpa using h j (by simpa using hj)

theorem str_eqB (a b : ByteArray) : (a.toList == b.toList) = decide (a = b) := by
  rw [ByteArray.toList_eq, ByteArray.toList_eq, Bool.eq_iff_iff]
  simp only [beq_iff_eq, decide_eq_true_eq, Array.toList_inj]
  exact ⟨fun h => by cases a; cases b; simp_all, fun h => by rw [h]⟩


set_option maxHeartbeats 1600000 in
theorem ref_Same (b1 o1 n1 c1 b2 o2 n2 c2 : Nat) (l1 l2 : List ByteArray) (w : World) (h1 : StrRow w b1 o1 n1 l1) (h2 : StrRow w b2 o2 n2 l2) (hn1 : n1 ≤ 140737488351232) (hn2 : n2 ≤ 140737488351232) :
    Calls Tryz.prog 24 #[.slice (some ⟨b1, o1, none⟩) n1 c1, .slice (some ⟨b2, o2, none⟩) n2 c2] w fun e w' => e = .returned (.bool (decide (l1 = l2))) ∧ ∃ m, w.drewN m = w' := by
  by_cases hn : n1 = n2
  · subst hn
    go_enter Tryz.func24, Tryz.ntmps24
    go_wp2_with fail
    go_loopw [5] (fun i wr => ∃ k m : Nat, k ≤ n1 ∧ i = .int .i64 k ∧ w.drewN m = wr ∧ ∀ j, j < k → l1.getD j ByteArray.empty = l2.getD j ByteArray.empty) (fun i _ => n1 - (intOf i).toNat)
    case atStart => exact ⟨0, 0, Nat.zero_le _, rfl, rfl, fun j hj => by omega⟩
    case round =>
      obtain ⟨k, m, hk, rfl, rfl, hall⟩ := hrel
      have HA := Lib.hid hall
      clear hall
      by_cases hlt : k < n1
      · have e1 : w.cell? ⟨b1, o1 + k, none⟩ = some (.string (l1.getD k ByteArray.empty)) := h1.2 k hlt
        have e2 : w.cell? ⟨b2, o2 + k, none⟩ = some (.string (l2.getD k ByteArray.empty)) := h2.2 k hlt
        have i1 : (k : Int) < (n1 : Int) := by omega
        generalize hx1 : l1.getD k ByteArray.empty = x1 at e1
        generalize hx2 : l2.getD k ByteArray.empty = x2 at e2
        have HX1 := Lib.hid hx1
        have HX2 := Lib.hid hx2
        clear hx1 hx2
        by_cases hx : x1 = x2
        · have e3 : (x1.toList == x2.toList) = true := by rw [str_eqB]; simpa using hx
          have HX := Lib.hid hx
          clear hx
          go_wp2_with fail
          go_quiet (fail)
          go_wp2_with fail
          go_roundw
          case rel => exact ⟨k + 1, _, by omega, by go_num, rfl, fun j hj => by
            by_cases hjk : j = k
            · subst hjk; rw [HX1.out, HX2.out, HX.out]
            · exact HA.out j (by omega)⟩
          case measure => simp [intOf]; omega
        · have e3 : (x1.toList == x2.toList) = false := by rw [str_eqB]; simpa using hx
          have hne : l1 ≠ l2 := fun h => hx (by rw [← HX1.out, ← HX2.out, h])
          have HNE := Lib.hid hne
          clear hne hx
          go_wp2_with fail
          go_quiet (fail)
          go_wp2_with fail
          go_ret
          exact ⟨ret_bool (decide_eq_false HNE.out).symm, _, (World.drewN_drewN _ _ _).symm⟩
      · obtain rfl : k = n1 := by omega
        have heq : l1 = l2 := by
          refine List.ext_getElem (h1.1.trans h2.1.symm) (fun j h h' => ?_)
          have := HA.out j (by rw [← h1.1]; exact h)
          simpa [List.getD, h, h'] using this
        have HE := Lib.hid heq
        clear heq
        go_wp2_with fail
        go_ret
        exact ⟨ret_bool (decide_eq_true HE.out).symm, _, rfl⟩
  · have e1 : ((n1 : Int) != (n2 : Int)) = true := by simp; omega
    have hne : l1 ≠ l2 := fun h => hn (by rw [← h1.1, ← h2.1, h])
    have HNE := Lib.hid hne
    clear hne hn
    go_enter Tryz.func24, Tryz.ntmps24
    go_wp2_with fail
    go_ret
    exact ⟨ret_bool (decide_eq_false HNE.out).symm, 0, rfl⟩
end Go.Proofs.YtbonnmkkacplgaaGreatDoor

/- fold.All. -/
namespace Go.Proofs.YtbonnmkkacplgaaGreatDoor
open Go.RowKit

/-- Do all bytes of a text stand in another one? -/
def allB (s m : ByteArray) : Bool := (List.range s.size).all fun i => hasB m (byteAt s i)
theorem allB_no {s m : ByteArray} {i : Nat} (hi : i < s.size) (h : hasB m (byteAt s i) = false) : allB s m = false := by
  unfold allB; rw [List.all_eq_false]; exact ⟨i, by simpa using hi, by simpa using h⟩
theorem allB_yes {s m : ByteArray} (h : ∀ i, i < s.size → hasB m (byteAt s i) = true) : allB s m = true := by
  unfold allB; rw [List.all_eq_true]; intro i hi; exact h i (by simpa using hi)
theorem index_has (m : ByteArray) (c : UInt8) : (hasB m c = true ∧ 0 ≤ Lib.indexByte m.data.toList c) ∨ (hasB m c = false ∧ Lib.indexByte m.data.toList c < 0) := by
  have hl : m.data.toList.length = m.size := rfl
  have hge := Lib.indexByte_ge m.data.toList c
  by_cases h : Lib.indexByte m.data.toList c = -1
  · refine .inr ⟨hasB_no fun j hj e => ?_, by omega⟩
    have := Lib.indexByte_none h j
    rw [List.getElem?_eq_getElem (by omega)] at this
    apply this
    rw [← e]
    unfold byteAt
    rw [List.getD, List.getElem?_eq_getElem (by omega)]; rfl
  · obtain ⟨o, ho⟩ := Int.eq_ofNat_of_zero_le (show 0 ≤ Lib.indexByte m.data.toList c by omega)
    have h2 := (Lib.indexByte_some ho).1
    have hlt : o < m.data.toList.length := (List.getElem?_eq_some_iff.1 h2).1
    refine .inl ⟨hasB_yes (k := o) (by omega) ?_, by omega⟩
    unfold byteAt
    rw [List.getD, h2]; rfl

end Go.Proofs.YtbonnmkkacplgaaGreatDoor
