/- Rows of numbers of the call's own: appending a row to one; parts of one. -/
import Derived.Test.YtibhohpamnpkcaaGreatDoorRouteOrderM7
import Derived.Test.YtibhohpamnpkcaaGreatDoorRouteOrderM8
import Derived.Test.YtibhohpamnpkcaaGreatDoorRouteOrderM6
import Derived.Test.YtibhohpamnpkcaaGreatDoorRouteOrderM1
import Derived.Test.YtibhohpamnpkcaaGreatDoorShelf
import Derived.Lib.IndexLaws
import Derived.Lib.SplitLaws
import Derived.Lib.IndexBytes
import Derived.Test.YtibhohpamnpkcaaGreatDoorRouteOrderM4

namespace Go.Proofs.YtibhohpamnpkcaaGreatDoor
open Go.RowKit

def intsN (l : List Nat) : List Int := l.map fun c : Nat => (c : Int)
theorem intsN_len (l : List Nat) : (intsN l).length = l.length := by simp [intsN]
theorem intsN_app (a b : List Nat) : intsN (a ++ b) = intsN a ++ intsN b := by simp [intsN]
theorem intsN_at (l : List Nat) (j : Nat) (h : j < l.length) : (intsN l).getD j 0 = (l[j] : Int) := by simp [intsN, List.getD, h]
theorem OwnN.cellAt {w : World} {base : Nat} {a : Option Addr} {n c : Nat} {l : List Nat} (h : OwnN w base (.slice a n c) l) {j : Nat} (hj : j < l.length) : ∃ g, a = some ⟨g, 0, none⟩ ∧ base ≤ g ∧ g < w.heap.size ∧ l.length ≤ c ∧ c ≤ maxLen ∧ w.cell? ⟨g, j, none⟩ = some (.int .i64 (l[j] : Int)) := by
  rcases h.2 with ⟨e, h0⟩ | ⟨g, cap, cur, e, hg, hh, h1, h2, _⟩
  · omega
  · cases e
    have := World.ownsRow.cellAt h j (by omega)
    refine ⟨g, rfl, hg, lt_of_block hh, h1, h2, ?_⟩
    rw [this]
    simp [hj, intV]
/-- A part of a row of the call's own. -/
theorem OwnN.part {w : World} {base g c : Nat} {n : Nat} {l : List Nat} (h : OwnN w base (.slice (some ⟨g, 0, none⟩) n c) l) (i j cp : Nat) (hij : i ≤ j) (hj : j ≤ l.length) (hcp : j - i ≤ cp) (hcm : cp ≤ maxLen) : IntsSl w (.slice (some ⟨g, i, none⟩) (j - i) cp) (intsN ((l.take j).drop i)) := by
  have hlen : ((l.take j).drop i).length = j - i := by simp; omega
  by_cases h0 : j - i = 0
  · refine .inl ⟨?_, some ⟨g, i, none⟩, cp, by rw [h0]⟩
    rw [List.eq_nil_of_length_eq_zero (by omega : ((l.take j).drop i).length = 0)]; rfl
  · have hl0 : 0 < l.length := by omega
    obtain ⟨g', e, _, hg, _, _, _⟩ := h.cellAt (j := 0) hl0
    cases e
    refine .inr ⟨g, i, cp, by rw [intsN_len, hlen], by rw [intsN_len, hlen]; exact hcp, hcm, hg, fun k hk => ?_⟩
    rw [intsN_len, hlen] at hk
    obtain ⟨g', e, _, _, _, _, hc⟩ := h.cellAt (j := i + k) (by omega)
    cases e
    rw [hc, intsN_at _ _ (by omega)]
    simp
theorem OwnN.sl {w : World} {base : Nat} {v : Value} {l : List Nat} (h : OwnN w base v l) : IntsSl w v (intsN l) := by
  rcases h.2 with ⟨e, h0⟩ | ⟨g, cap, cur, e, hg, hh, h1, h2, _⟩
  · rw [List.eq_nil_of_length_eq_zero h0]; subst e; exact .inl ⟨rfl, none, 0, rfl⟩
  · subst e
    refine .inr ⟨g, 0, cap, by rw [intsN_len], by rw [intsN_len]; exact h1, h2, lt_of_block hh, fun k hk => ?_⟩
    rw [intsN_len] at hk
    obtain ⟨g', e, _, _, _, _, hc⟩ := h.cellAt (j := k) hk
    cases e
    rw [Nat.zero_add, hc, intsN_at _ _ hk]
theorem OwnN.lit0 (w : World) (base : Nat) (hb : base ≤ w.heap.size) : OwnN (w.alloc (.cells #[] 3)) base (.slice (some ⟨w.heap.size, 0, none⟩) 0 0) [] :=
  World.ownsRow_lit w #[] 0 hb (Nat.zero_le _) rfl
/-- A row of any numbers of the call's own. -/
def OwnZ (w : World) (base : Nat) (v : Value) (l : List Int) : Prop := w.ownsRow base 3 1 v l.length (l.map (Value.int .i64))
theorem ownZ_N {w : World} {base : Nat} {v : Value} {l : List Nat} : OwnZ w base v (intsN l) ↔ OwnN w base v l := by
  unfold OwnZ OwnN
  rw [intsN_len]
  have : (intsN l).map (Value.int .i64) = l.map intV := by unfold intsN; rw [List.map_map]; rfl
  rw [this]
theorem OwnZ.below {w w' : World} {base : Nat} {v : Value} {l : List Int} (h : OwnZ w base v l) (hb : Below w.heap.size w w') : OwnZ w' base v l := ownsRow_below h hb
theorem OwnZ.lit0 (w : World) (base : Nat) (hb : base ≤ w.heap.size) : OwnZ (w.alloc (.cells #[] 3)) base (.slice (some ⟨w.heap.size, 0, none⟩) 0 0) [] :=
  World.ownsRow_lit w #[] 0 hb (Nat.zero_le _) rfl
theorem OwnZ.sl {w : World} {base : Nat} {v : Value} {l : List Int} (h : OwnZ w base v l) : IntsSl w v l := by
  rcases h.2 with ⟨e, h0⟩ | ⟨g, cap, cur, e, hg, hh, h1, h2, _⟩
  · rw [List.eq_nil_of_length_eq_zero h0]; subst e; exact .inl ⟨rfl, none, 0, rfl⟩
  · subst e
    refine .inr ⟨g, 0, cap, rfl, h1, h2, lt_of_block hh, fun k hk => ?_⟩
    have := World.ownsRow.cellAt h k (by omega)
    rw [Nat.zero_add, this]
    simp [hk, List.getD]
theorem wpList_app_intsZ {w : World} {ops : Array Oper} {rest : List Oper} {o : Oper} {a : Act} {Q : Exit → Act → World → Prop} (hgd : o.guard = none) (s x : Operand) (ho : o.op = .call { callee := .builtin .append, args := #[s, x], argTypes := #[166, 166] })
    (base : Nat) (v : Value) (l : List Int) (hs : a.eval s = v) (hown : OwnZ w base v l) (y : Value) (S : List Int) (hx : a.eval x = y) (hy : IntsSl w y S)
    (hl : l.length + S.length ≤ 1073741824) (hbase : base ≤ w.heap.size)
    (h : ∀ v' w', OwnZ w' base v' (l ++ S) → w.grownBy w' v.ownBlock → wpList Tryz.prog ops Q rest (a.put o.dst v') w') : wpList Tryz.prog ops Q (o :: rest) a w := by
  obtain ⟨i, hi, hz, hsize, hby⟩ := info_parts info_int
  rcases hy with ⟨rfl, ad, cap, rfl⟩ | ⟨b, off, cap, rfl, hc, hcm, hbs, hp⟩
  · have hsrc : Src Tryz.prog i.size 166 (.slice ad 0 cap) 0 [] w := by
      cases ad with
      | none => exact Src.ofNil w Tryz.underlying166 cap
      | some ad => exact Src.ofSlice w Tryz.underlying166 ad 0 cap [] (by simp) (by simp) (by simp)
    refine wpList_plain hgd fun K hK => ?_
    have hrun : (Builtin.append_ #[166, 166] o.type #[v, .slice ad 0 cap]).run Tryz.prog w = .ok v w := by
      rcases hown.2 with ⟨e, _⟩ | ⟨g, c, cur, e, _, _, h1, _⟩
      · subst e
        exact run_append_nothing w _ _ _ 3 i Tryz.underlying166 hi none 0 0 (Nat.le_refl _) _ hsrc
      · subst e
        exact run_append_nothing w _ _ _ 3 i Tryz.underlying166 hi _ _ _ h1 _ hsrc
    unfold Oper.wp
    simp [execOp, ho, resolve, invoke, builtin, hs, hx, hrun, Result.andThen]
    refine hK _ _ (h v w (by rw [List.append_nil]; exact hown) (below_grownBy (Below.refl _ _) _))
  · refine wpList_append_own _ hgd s x 166 ho base 3 i (.int .i64 0) 1 8 Tryz.underlying166 hi hz hsize hby rfl (by decide) v _ _ hs hown _ _ cap (S.map (Value.int .i64)) hx (by simp) ?_ ?_ (by unfold maxLen; omega) (by omega) hbase ?_
    · intro j u hj
      have hj' : j < S.length := by
        have := (List.getElem?_eq_some_iff.1 hj).1
        simpa using this
      rw [Addr.add_lit, hp j hj', ← hj]
      simp [hj', List.getD]
    · intro u hu
      obtain ⟨_, _, rfl⟩ := List.mem_map.1 hu
      rfl
    · intro v' w' h1 h2 _
      refine h v' w' ?_ h2
      unfold OwnZ
      rw [List.length_append, List.map_append]
      exact h1
theorem wpList_app_ints {w : World} {ops : Array Oper} {rest : List Oper} {o : Oper} {a : Act} {Q : Exit → Act → World → Prop} (hgd : o.guard = none) (s x : Operand) (ho : o.op = .call { callee := .builtin .append, args := #[s, x], argTypes := #[166, 166] })
    (base : Nat) (v : Value) (l : List Nat) (hs : a.eval s = v) (hown : OwnN w base v l) (y : Value) (S : List Nat) (hx : a.eval x = y) (hy : IntsSl w y (intsN S))
    (hl : l.length + S.length ≤ 1073741824) (hbase : base ≤ w.heap.size)
    (h : ∀ v' w', OwnN w' base v' (l ++ S) → w.grownBy w' v.ownBlock → wpList Tryz.prog ops Q rest (a.put o.dst v') w') : wpList Tryz.prog ops Q (o :: rest) a w := by
  refine wpList_app_intsZ hgd s x ho base v (intsN l) hs (ownZ_N.2 hown) y (intsN S) hx hy (by rw [intsN_len, intsN_len]; exact hl) hbase fun v' w' h1 h2 => h v' w' ?_ h2
  rw [← intsN_app] at h1
  exact ownZ_N.1 h1
end Go.Proofs.YtibhohpamnpkcaaGreatDoor

/- Characters below 128, great letters: plain facts. -/
namespace Go.Proofs.YtibhohpamnpkcaaGreatDoor
open Go.RowKit

theorem nats_intsN (l : List Nat) : nats (intsN l) = l := by
  unfold nats intsN
  rw [List.map_map]
  conv => rhs; rw [← List.map_id l]
  exact List.map_congr_left fun x _ => by simp
theorem intsN_right : ∀ (l : List Nat), (∀ c ∈ l, rightB (c : Int) = true) → rightLen (intsN l) = (intsN l).length := by
  intro l
  induction l with
  | nil => intro _; rfl
  | cons c l ih =>
    intro h
    show (if rightB (c : Int) = true then rightLen (intsN l) + 1 else 0) = (intsN l).length + 1
    rw [if_pos (h c (by simp)), ih fun d hd => h d (by simp [hd])]
theorem enc_nats {l : List Nat} (h : ∀ c ∈ l, rightB (c : Int) = true) (hl : l.length ≤ 256) : encE (intsN l) = .ok (encN l) := by
  rw [encE_ok (by rw [intsN_len]; omega) (intsN_right l h), nats_intsN]
def asc (s : ByteArray) (k : Nat) : List Nat := (List.range k).map fun j => (byteAt s j).toNat % 128
theorem asc_succ (s : ByteArray) (k : Nat) : asc s (k + 1) = asc s k ++ [(byteAt s k).toNat % 128] := by unfold asc; rw [List.range_succ, List.map_append]; rfl
theorem asc_len (s : ByteArray) (k : Nat) : (asc s k).length = k := by unfold asc; simp
theorem asc_lt {s : ByteArray} {k c : Nat} (h : c ∈ asc s k) : c < 128 := by
  obtain ⟨j, _, rfl⟩ := List.mem_map.1 h
  exact Nat.mod_lt _ (by decide)
theorem and_127 (c : UInt8) : bits .and .u8 (c.toNat : Int) 127 = ((c.toNat % 128 : Nat) : Int) := by
  have : ∀ n : Fin 256, bits .and .u8 (n.1 : Int) 127 = ((n.1 % 128 : Nat) : Int) := by decide +kernel
  exact this ⟨c.toNat, c.toNat_lt⟩
theorem small_right {c : Nat} (h : c < 128) : rightB (c : Int) = true := (rightC_iff c).1 (.inl (by omega))
/-- Characters below 128 are encoded as they are, with a mark behind them. -/
theorem enc_small {l : List Nat} (h : ∀ c ∈ l, c < 128) (h0 : l ≠ []) : encN l = basicL l ++ [45] ∧ (basicL l).length = l.length := by
  have hm : markL l = [] := by
    cases hml : markL l with
    | nil => rfl
    | cons m ms =>
      have := (markL_mem l m).1 (by rw [hml]; simp)
      have := h m this.1
      omega
  have hb : (basicL l).length = l.length := by
    unfold basicL
    rw [List.length_map, List.filter_eq_self.2 (fun c hc => by simpa using h c hc)]
  refine ⟨?_, hb⟩
  unfold encN
  rw [hm]
  show basicO l = _
  unfold basicO
  rw [if_neg (by rw [hb]; intro e; exact h0 (List.eq_nil_of_length_eq_zero e))]
/-- The characters from 128 on among numbers. -/
def wideZ (l : List Int) : List Nat := (l.filter fun z => rightB z && decide (128 ≤ z)).map Int.toNat
theorem wideZ_snoc (l : List Int) (z : Int) : wideZ (l ++ [z]) = if rightB z = true ∧ 128 ≤ z then wideZ l ++ [z.toNat] else wideZ l := by
  unfold wideZ
  rw [List.filter_append, List.map_append]
  by_cases h : rightB z = true ∧ 128 ≤ z
  · rw [if_pos h]; simp [h.1, h.2]
  · rw [if_neg h]
    have : (rightB z && decide (128 ≤ z)) = false := by
      cases hr : rightB z with
      | false => rfl
      | true => simp; exact Int.not_le.1 fun h2 => h ⟨hr, h2⟩
    simp [this]
theorem wideZ_mem {l : List Int} {c : Nat} (h : c ∈ wideZ l) : rightB (c : Int) = true ∧ 128 ≤ c := by
  obtain ⟨z, hz, rfl⟩ := List.mem_map.1 h
  have := (List.mem_filter.1 hz).2
  simp at this
  rw [Int.toNat_of_nonneg (by omega)]
  exact ⟨this.1, by omega⟩
theorem wideZ_len (l : List Int) : (wideZ l).length ≤ l.length := by unfold wideZ; rw [List.length_map]; exact List.length_filter_le _ _
def upC (c : UInt8) : UInt8 := if 97 ≤ c.toNat ∧ c.toNat ≤ 122 then UInt8.ofNat (c.toNat - 32) else c
theorem upC_val (c : UInt8) : valNp (upC c) = valNp c := by
  have : ∀ n : Fin 256, valNp (upC (UInt8.ofNat n.1)) = valNp (UInt8.ofNat n.1) := by decide +kernel
  have := this ⟨c.toNat, c.toNat_lt⟩
  simpa using this
theorem basicO_wide {l : List Nat} (h : ∀ c ∈ l, 128 ≤ c) : basicO l = [] := by
  unfold basicO
  rw [if_pos]
  unfold basicL
  rw [List.length_map, List.filter_eq_nil_iff.2 (fun c hc => by have := h c hc; simp; omega)]
  rfl
/-- Great letters among the digits are as good as small ones. -/
theorem dec_great {l : List Nat} (h : ∀ c ∈ l, rightB (c : Int) = true ∧ 128 ≤ c) (hl : l.length ≤ 256) (h1024 : (encN l).length ≤ 1024) : decE ⟨((encN l).map upC).toArray⟩ = .ok l := by
  have hsz : (⟨((encN l).map upC).toArray⟩ : ByteArray).size = (encN l).length := by show ((encN l).map upC).toArray.size = _; simp
  have hO := basicO_wide fun c hc => (h c hc).2
  refine dec_enc l (fun c hc => (h c hc).1) hl _ hsz (by omega) (fun k _ hk => ?_) (fun k hk => by rw [hO] at hk; exact absurd hk (Nat.not_lt_zero _))
  have : byteAt ⟨((encN l).map upC).toArray⟩ k = upC ((encN l).getD k 0) := by simp [byteAt, List.getD, hk]
  rw [this, upC_val]
theorem roundK_inv {cs : List Nat} {basic m n : Nat} {s : PStp} (h : PInv cs n s) (hl : cs.length ≤ 256) (hnm : n ≤ m) (hm : m ≤ 1114111) : ∀ k, k ≤ cs.length → PIn cs m k (roundK cs basic m n s k) := by
  intro k
  induction k with
  | zero => intro _; exact h.start hl hnm
  | succ k ih =>
    intro hk
    have hk' : k < cs.length := hk
    rw [roundK_succ (List.getElem?_eq_getElem hk')]
    exact (ih (by omega)).step hm hl (List.getElem?_eq_getElem hk')
theorem encR_inv (cs : List Nat) (basic : Nat) (hl : cs.length ≤ 256) : ∀ (ms : List Nat) (n : Nat) (s : PStp), ms.Pairwise (· < ·) → (∀ m ∈ ms, n ≤ m ∧ m ≤ 1114111) → PInv cs n s → ∃ n', PInv cs n' (encR cs basic ms n s) := by
  intro ms
  induction ms with
  | nil => intro n s _ _ h; exact ⟨n, h⟩
  | cons m ms ih =>
    intro n s hp hm h
    have hp' := List.pairwise_cons.1 hp
    obtain ⟨h1, h2⟩ := hm m (by simp)
    have h3 := roundK_inv (basic := basic) h hl h1 h2 cs.length (Nat.le_refl _)
    rw [roundK_all] at h3
    exact ih (m + 1) _ hp'.2 (fun x hx => ⟨hp'.1 x hx, (hm x (by simp [hx])).2⟩) (h3.next hl)
theorem encN_len {cs : List Nat} (hl : cs.length ≤ 256) (h : ∀ c ∈ cs, rightB (c : Int) = true) : (encN cs).length ≤ 3000 := by
  obtain ⟨n', h1⟩ := encR_inv cs (basicL cs).length hl (markL cs) 128 ⟨0, 72, (basicL cs).length, basicO cs⟩ (markL_up cs) (fun m hm => by
    have := (markL_mem cs m).1 hm
    obtain ⟨c, e, _, h2⟩ := right_nat (h m this.1)
    exact ⟨this.2, by omega⟩) (PInv.zero cs hl)
  have h2 := h1.2.2.1
  have h3 := h1.2.2.2
  have h4 : (cs.filter fun c => decide (c < n')).length ≤ cs.length := List.length_filter_le _ _
  have e : (encN cs).length = (encR cs (basicL cs).length (markL cs) 128 ⟨0, 72, (basicL cs).length, basicO cs⟩).out.length := rfl
  omega
/-- Great letters up to a place. -/
def upTo (l : List UInt8) (i : Nat) : List UInt8 := (l.take i).map upC ++ l.drop i
theorem upTo_len (l : List UInt8) (i : Nat) : (upTo l i).length = l.length := by unfold upTo; simp; omega
theorem upTo_at {l : List UInt8} {i : Nat} (h : i < l.length) : (upTo l i).getD i 0 = l.getD i 0 := by
  unfold upTo
  simp only [List.getD]
  rw [List.getElem?_append_right (by simp; omega)]
  have : i - ((l.take i).map upC).length = 0 := by simp; omega
  rw [this]
  simp
theorem upTo_set {l : List UInt8} {i : Nat} (h : i < l.length) : (upTo l i).set i (upC (l.getD i 0)) = upTo l (i + 1) := by
  unfold upTo
  have e : ((l.take i).map upC).length = i := by simp; omega
  rw [List.set_append_right _ _ (by omega), e, Nat.sub_self, List.drop_eq_getElem_cons h, List.set_cons_zero, List.take_succ_eq_append_getElem h, List.map_append]
  simp [List.getD, h]
theorem upTo_keep {l : List UInt8} {i : Nat} (h : i < l.length) (h2 : upC (l.getD i 0) = l.getD i 0) : upTo l (i + 1) = upTo l i := by
  rw [← upTo_set h, h2, ← upTo_at h]
  apply List.ext_getElem?
  intro j
  rw [List.getElem?_set]
  split
  · rename_i e; subst e
    have hj : i < (upTo l i).length := by rw [upTo_len]; exact h
    rw [if_pos hj]
    simp [List.getD, hj]
  · rfl
theorem upTo_all (l : List UInt8) : upTo l l.length = l.map upC := by unfold upTo; simp
end Go.Proofs.YtibhohpamnpkcaaGreatDoor

/- Labels, in plain words. -/
namespace Go.Proofs.YtibhohpamnpkcaaGreatDoor
open Go.RowKit

def smallZ (c : Int) : Bool := decide ((97 ≤ c ∧ c ≤ 122) ∨ (48 ≤ c ∧ c ≤ 57) ∨ c = 45)
/-- May a character stand in a label? -/
def mayB (c : Nat) : Bool := smallZ c || charZ c
/-- Do a label's marks stand where they may? -/
def marksL (l : List Nat) : Bool := decide (0 < l.length ∧ l.getD 0 0 ≠ 45 ∧ l.getD (l.length - 1) 0 ≠ 45 ∧ (l.length < 4 ∨ l.getD 2 0 ≠ 45 ∨ l.getD 3 0 ≠ 45))
def xnL : List UInt8 := [120, 110, 45, 45]
/-- What stands behind a label's prefix. -/
def bodyS (s : ByteArray) : ByteArray := ⟨(s.data.toList.drop 4).toArray⟩
def wideL (l : List Nat) : Bool := l.any fun c => decide (128 ≤ c)
/-- The characters of a coded label. -/
def labD (s : ByteArray) : Option (List Nat) :=
  if Lib.hasPrefix s.data.toList xnL = true then
    match decE (bodyS s) with
    | .error _ => none
    | .ok l => if l.all mayB = true ∧ wideL l = true ∧ encN l = (bodyS s).data.toList ∧ marksL l = true then some l else none
  else none
theorem labD_no {s : ByteArray} (h : Lib.hasPrefix s.data.toList xnL = false) : labD s = none := by unfold labD; rw [if_neg (by rw [h]; decide)]
theorem labD_err {s : ByteArray} {e : Nat × Nat} (h : Lib.hasPrefix s.data.toList xnL = true) (h2 : decE (bodyS s) = .error e) : labD s = none := by unfold labD; rw [if_pos h, h2]
theorem labD_ok {s : ByteArray} {l : List Nat} (h : Lib.hasPrefix s.data.toList xnL = true) (h2 : decE (bodyS s) = .ok l) : labD s = if l.all mayB = true ∧ wideL l = true ∧ encN l = (bodyS s).data.toList ∧ marksL l = true then some l else none := by unfold labD; rw [if_pos h, h2]
theorem labD_inv {s : ByteArray} {l : List Nat} (h : labD s = some l) : Lib.hasPrefix s.data.toList xnL = true ∧ decE (bodyS s) = .ok l ∧ l.all mayB = true ∧ wideL l = true ∧ encN l = (bodyS s).data.toList ∧ marksL l = true := by
  unfold labD at h
  split at h
  · next h1 =>
    split at h
    · cases h
    · next l' h2 =>
      split at h
      · next h3 => cases h; exact ⟨h1, h2, h3⟩
      · cases h
  · cases h
/-- Are a label's third and fourth bytes marks? -/
def codedB (s : ByteArray) : Bool := decide (4 ≤ s.size ∧ byteAt s 2 = 45 ∧ byteAt s 3 = 45)
/-- What is wrong with a label of ASCII; (0, 0): nothing. -/
def badAt (s : ByteArray) : Nat → Nat → Option Nat
  | 0, _ => none
  | r + 1, k => if smallZ ((byteAt s k).toNat : Int) = true then badAt s r (k + 1) else some k
theorem bad_hit {s : ByteArray} {r k : Nat} (h : smallZ ((byteAt s k).toNat : Int) = false) : badAt s (r + 1) k = some k := by rw [badAt, if_neg (by rw [h]; decide)]
theorem bad_next {s : ByteArray} {r k : Nat} (h : smallZ ((byteAt s k).toNat : Int) = true) : badAt s (r + 1) k = badAt s r (k + 1) := by rw [badAt, if_pos h]
/-- Nothing wrong with a label's marks, and code. -/
def fineB (s : ByteArray) : Bool := decide (byteAt s 0 ≠ 45) && decide (byteAt s (s.size - 1) ≠ 45) && (!codedB s || (labD s).isSome)
def rightL (s : ByteArray) : Nat × Nat :=
  if s.size = 0 then (10, 0) else if 63 < s.size then (14, 63) else
  match badAt s s.size 0 with
  | some i => (11, i)
  | none => if fineB s = true then (0, 0) else (24, 0)
theorem rightL_empty {s : ByteArray} (h : s.size = 0) : rightL s = (10, 0) := by unfold rightL; rw [if_pos h]
theorem rightL_long {s : ByteArray} (h : s.size ≠ 0) (h2 : 63 < s.size) : rightL s = (14, 63) := by unfold rightL; rw [if_neg h, if_pos h2]
theorem rightL_bad {s : ByteArray} {i : Nat} (h : s.size ≠ 0) (h2 : ¬ 63 < s.size) (h3 : badAt s s.size 0 = some i) : rightL s = (11, i) := by unfold rightL; rw [if_neg h, if_neg h2, h3]
theorem rightL_fine {s : ByteArray} (h : s.size ≠ 0) (h2 : ¬ 63 < s.size) (h3 : badAt s s.size 0 = none) : rightL s = if fineB s = true then (0, 0) else (24, 0) := by unfold rightL; rw [if_neg h, if_neg h2, h3]
end Go.Proofs.YtibhohpamnpkcaaGreatDoor

/- fold.All. -/
namespace Go.Proofs.YtibhohpamnpkcaaGreatDoor
open Go.RowKit

/-- Do all bytes of a text stand in another one? -/
def allB (s m : ByteArray) : Bool := (List.range s.size).all fun i => hasB m (byteAt s i)
theorem allB_no {s m : ByteArray} {i : Nat} (hi : i < s.size) (h : hasB m (byteAt s i) = false) : allB s m = false := by
  unfold allB; rw [List.all_eq_false]; exact ⟨i, by simpa using hi, by simpa using h⟩
theorem allB_yes {s m : ByteArray} (h : ∀ i, i < s.size → hasB m (byteAt s i) = true) : allB s m = true := by
  unfold allB; rw [List.all_eq_true]; intro i hi; exact h i (by simpa using hi)
theorem index_has (m : ByteArray) (c : UInt8) : (hasB m c = true ∧ 0 ≤ Lib.indexByte m.data.toList c) ∨ (hasB m c = false ∧ Lib.indexByte m.data.toList c < 0) := by
  have hl : m.data.toList.length = m.size := rfl
  have hge := Lib.indexByte_ge m.data.toList c
  by_cases h : Lib.indexByte m.data.toList c = -1
  · refine .inr ⟨hasB_no fun j hj e => ?_, by omega⟩
    have := Lib.indexByte_none h j
    rw [List.getElem?_eq_getElem (by omega)] at this
    apply this
    rw [← e]
    unfold byteAt
    rw [List.getD, List.getElem?_eq_getElem (by omega)]; rfl
  · obtain ⟨o, ho⟩ := Int.eq_ofNat_of_zero_le (show 0 ≤ Lib.indexByte m.data.toList c by omega)
    have h2 := (Lib.indexByte_some ho).1
    have hlt : o < m.data.toList.length := (List.getElem?_eq_some_iff.1 h2).1
    refine .inl ⟨hasB_yes (k := o) (by omega) ?_, by omega⟩
    unfold byteAt
    rw [List.getD, h2]; rfl

end Go.Proofs.YtibhohpamnpkcaaGreatDoor

/- A list cut at a mark: plain facts, in the forms that strings.Split and the reference's parts have. -/
namespace Go.Proofs.YtibhohpamnpkcaaGreatDoor

def splitL (c : UInt8) : List UInt8 → List (List UInt8)
  | [] => [[]]
  | x :: l => if x = c then [] :: splitL c l else match splitL c l with | [] => [[x]] | p :: ps => (x :: p) :: ps
theorem splitL_none (c : UInt8) : ∀ (a : List UInt8), (∀ x ∈ a, x ≠ c) → splitL c a = [a]
  | [], _ => rfl
  | x :: a, h => by
    have := splitL_none c a (fun y hy => h y (by simp [hy]))
    rw [splitL, if_neg (h x (by simp)), this]
theorem splitL_cut (c : UInt8) (b : List UInt8) : ∀ (a : List UInt8), (∀ x ∈ a, x ≠ c) → splitL c (a ++ c :: b) = a :: splitL c b
  | [], _ => by simp [splitL]
  | x :: a, h => by
    have := splitL_cut c b a (fun y hy => h y (by simp [hy]))
    rw [List.cons_append, splitL, if_neg (h x (by simp)), this]
theorem splitL_ne (c : UInt8) (l : List UInt8) : splitL c l ≠ [] := by
  cases l with
  | nil => simp [splitL]
  | cons x l =>
    rw [splitL]
    split
    · simp
    · split <;> simp
/-- A list without the mark, or the part ahead of the first one. -/
theorem first_cut (c : UInt8) : ∀ (l : List UInt8), (∀ x ∈ l, x ≠ c) ∨ ∃ a b, l = a ++ c :: b ∧ ∀ x ∈ a, x ≠ c
  | [] => .inl (by simp)
  | x :: l => by
    by_cases hx : x = c
    · exact .inr ⟨[], l, by simp [hx], by simp⟩
    · rcases first_cut c l with h | ⟨a, b, e, h⟩
      · exact .inl (by intro y hy; simp at hy; rcases hy with rfl | hy; exact hx; exact h y hy)
      · exact .inr ⟨x :: a, b, by simp [e], by intro y hy; simp at hy; rcases hy with rfl | hy; exact hx; exact h y hy⟩
theorem splitL_app (c : UInt8) (b : List UInt8) : ∀ (n : Nat) (a : List UInt8), a.length ≤ n → splitL c (a ++ c :: b) = splitL c a ++ splitL c b := by
  intro n
  induction n with
  | zero =>
    intro a h
    have : a = [] := List.eq_nil_of_length_eq_zero (by omega)
    subst this
    simp [splitL]
  | succ n ih =>
    intro a h
    rcases first_cut c a with h1 | ⟨x, y, e, h1⟩
    · rw [splitL_cut c b a h1, splitL_none c a h1]; rfl
    · subst e
      rw [List.append_assoc, List.cons_append, splitL_cut c _ x h1, ih y (by simp at h; omega), splitL_cut c _ x h1]
      rfl
theorem splitL_len (c : UInt8) : ∀ (n : Nat) (l : List UInt8), l.length ≤ n → ((splitL c l).map List.length).sum + (splitL c l).length = l.length + 1 := by
  intro n
  induction n with
  | zero =>
    intro l h
    have : l = [] := List.eq_nil_of_length_eq_zero (by omega)
    subst this
    simp [splitL]
  | succ n ih =>
    intro l h
    rcases first_cut c l with h1 | ⟨x, y, e, h1⟩
    · rw [splitL_none c l h1]; simp
    · subst e
      have := ih y (by simp at h; omega)
      rw [splitL_cut c _ x h1]
      simp only [List.map_cons, List.sum_cons, List.length_cons, List.length_append]
      omega
theorem split_index {c : UInt8} {a b : List UInt8} (h : ∀ x ∈ a, x ≠ c) : Lib.index (a ++ c :: b) [c] = (a.length : Int) := by
  rw [Lib.index_one]
  induction a with
  | nil => simp [Lib.indexByte]
  | cons x a ih =>
    have := ih (fun y hy => h y (by simp [hy]))
    rw [List.cons_append, Lib.indexByte, this]
    have hx := h x (by simp)
    simp [hx]
theorem split_index_none {c : UInt8} {a : List UInt8} (h : ∀ x ∈ a, x ≠ c) : Lib.index a [c] = -1 := by
  rw [Lib.index_one]
  induction a with
  | nil => simp [Lib.indexByte]
  | cons x a ih =>
    have := ih (fun y hy => h y (by simp [hy]))
    rw [Lib.indexByte, this]
    have hx := h x (by simp)
    simp [hx]
theorem splitK_is (c : UInt8) : ∀ (n : Nat) (l : List UInt8), l.length ≤ n → Lib.splitK [c] 0 (Lib.count l [c]) l = splitL c l := by
  intro n
  induction n with
  | zero =>
    intro l h
    have : l = [] := List.eq_nil_of_length_eq_zero (by omega)
    subst this
    rw [Lib.count_one]
    rfl
  | succ n ih =>
    intro l h
    rcases first_cut c l with h1 | ⟨x, y, e, h1⟩
    · have h0 : l.count c = 0 := List.count_eq_zero.2 (fun hm => h1 c hm rfl)
      rw [Lib.count_one, h0, splitL_none c l h1]; rfl
    · have hi := split_index (b := y) h1
      have h0 : x.count c = 0 := List.count_eq_zero.2 (fun hm => h1 c hm rfl)
      subst e
      have hc : Lib.count (x ++ c :: y) [c] = Lib.count y [c] + 1 := by
        rw [Lib.count_one, Lib.count_one, List.count_append, h0, List.count_cons_self]; omega
      have hy := ih y (by simp at h; omega)
      rw [hc, Lib.splitK, hi, splitL_cut c _ x h1, ← hy]
      have : ¬ ((x.length : Int) == -1) = true := by simp
      rw [if_neg this]
      simp
theorem splitB_is (c : UInt8) (s : ByteArray) : (Lib.splitB ⟨#[c]⟩ 0 (Lib.countB s ⟨#[c]⟩) s).map (·.data.toList) = splitL c s.data.toList := by
  rw [Lib.splitB_data]
  exact splitK_is c _ _ (Nat.le_refl _)
end Go.Proofs.YtibhohpamnpkcaaGreatDoor

/- A list cut at a mark once: plain facts. -/
namespace Go.Proofs.YtibhohpamnpkcaaGreatDoor

/-- A list's part ahead of a mark, the part behind it, and whether it stands there. -/
def cutL (c : UInt8) : List UInt8 → List UInt8 × List UInt8 × Bool
  | [] => ([], [], false)
  | x :: l => if x = c then ([], l, true) else (x :: (cutL c l).1, (cutL c l).2.1, (cutL c l).2.2)
def cutN (c : UInt8) (s : ByteArray) : ByteArray := ofL (cutL c s.data.toList).1
def cutV (c : UInt8) (s : ByteArray) : ByteArray := ofL (cutL c s.data.toList).2.1
def cutH (c : UInt8) (s : ByteArray) : Bool := (cutL c s.data.toList).2.2
theorem cutL_none (c : UInt8) : ∀ (a : List UInt8), (∀ x ∈ a, x ≠ c) → cutL c a = (a, [], false)
  | [], _ => rfl
  | x :: a, h => by rw [cutL, if_neg (h x (by simp)), cutL_none c a (fun y hy => h y (by simp [hy]))]
theorem cutL_cut (c : UInt8) (b : List UInt8) : ∀ (a : List UInt8), (∀ x ∈ a, x ≠ c) → cutL c (a ++ c :: b) = (a, b, true)
  | [], _ => by simp [cutL]
  | x :: a, h => by rw [List.cons_append, cutL, if_neg (h x (by simp)), cutL_cut c b a (fun y hy => h y (by simp [hy]))]
theorem cutL_len (c : UInt8) (l : List UInt8) : (cutL c l).1.length + (cutL c l).2.1.length + (if (cutL c l).2.2 = true then 1 else 0) = l.length := by
  rcases first_cut c l with h | ⟨a, b, e, h⟩
  · rw [cutL_none c l h]; simp
  · subst e; rw [cutL_cut c b a h]; simp; omega
theorem cutN_size (c : UInt8) (s : ByteArray) : (cutN c s).size ≤ s.size := by
  have := cutL_len c s.data.toList
  have hl : s.data.toList.length = s.size := rfl
  unfold cutN; rw [ofL_size]; omega
theorem cutV_size (c : UInt8) (s : ByteArray) : (cutV c s).size ≤ s.size := by
  have := cutL_len c s.data.toList
  have hl : s.data.toList.length = s.size := rfl
  unfold cutV; rw [ofL_size]; omega
theorem ofL_data (l : List UInt8) : (ofL l).data.toList = l := by simp [ofL]
/-- The index of a mark tells where a text is cut. -/
theorem cut_ways (c : UInt8) (s : ByteArray) : (Lib.indexByte s.data.toList c = -1 ∧ cutN c s = s ∧ cutV c s = ⟨#[]⟩ ∧ cutH c s = false ∧ ∀ j, j < s.size → byteAt s j ≠ c) ∨
    ∃ i : Nat, Lib.indexByte s.data.toList c = i ∧ i < s.size ∧ cutN c s = s.extract 0 i ∧ cutV c s = s.extract (i + 1) s.size ∧ cutH c s = true ∧ byteAt s i = c ∧ ∀ j, j < i → byteAt s j ≠ c := by
  have hl : s.data.toList.length = s.size := rfl
  have hget : ∀ j, (h : j < s.size) → byteAt s j = s.data.toList[j] := fun j h => by unfold byteAt; rw [List.getD, List.getElem?_eq_getElem (by omega)]; rfl
  unfold cutN cutV cutH
  rcases first_cut c s.data.toList with h | ⟨a, b, e, h⟩
  · refine .inl ⟨by rw [← Lib.index_one]; exact split_index_none h, ?_, ?_, ?_, fun j hj => ?_⟩
    · rw [cutL_none c _ h]; exact ofL_list s
    · rw [cutL_none c _ h]; rfl
    · rw [cutL_none c _ h]
    · rw [hget j hj]; exact h _ (List.getElem_mem _)
  · have hs : s.size = a.length + 1 + b.length := by rw [← hl, e]; simp; omega
    refine .inr ⟨a.length, by rw [← Lib.index_one, e]; exact split_index h, by omega, ?_, ?_, ?_, ?_, fun j hj => ?_⟩
    · rw [e, cutL_cut c b a h]
      apply ByteArray.ext
      apply Array.ext'
      rw [Lib.extract_data, e]
      simp [ofL]
    · rw [e, cutL_cut c b a h]
      apply ByteArray.ext
      apply Array.ext'
      rw [Lib.extract_data, e, hs]
      simp [ofL]
    · rw [e, cutL_cut c b a h]
    · rw [hget _ (by omega)]; simp [e]
    · rw [hget _ (by omega)]
      have : s.data.toList[j]'(by omega) = a[j] := by simp [e, List.getElem_append_left, hj]
      rw [this]
      exact h _ (List.getElem_mem _)
/-- Where a text is cut, as one who goes from byte to byte finds it. -/
theorem cut_lim (c : UInt8) (s : ByteArray) : ∃ i, i ≤ s.size ∧ (∀ j, j < i → byteAt s j ≠ c) ∧ cutN c s = s.extract 0 i ∧ (cutN c s).size = i ∧ ((i = s.size ∧ cutV c s = ⟨#[]⟩ ∧ cutH c s = false) ∨ (i < s.size ∧ byteAt s i = c ∧ cutV c s = s.extract (i + 1) s.size ∧ cutH c s = true)) := by
  rcases cut_ways c s with ⟨_, e1, e2, e3, h⟩ | ⟨i, _, hi, e1, e2, e3, h0, h⟩
  · refine ⟨s.size, Nat.le_refl _, h, ?_, by rw [e1], .inl ⟨rfl, e2, e3⟩⟩
    rw [e1]
    apply ByteArray.ext
    apply Array.ext'
    rw [Lib.extract_data]
    have hl : s.data.toList.length = s.size := rfl
    rw [List.drop_zero, Nat.sub_zero, ← hl, List.take_length]
  · exact ⟨i, by omega, h, e1, by rw [e1, ByteArray.size_extract]; omega, .inr ⟨hi, h0, e2, e3⟩⟩
theorem u8_neN {b : UInt8} {n : Nat} (hn : n < 256) (h : b ≠ UInt8.ofNat n) : ((b.toNat : Int) != (n : Int)) = true := by
  simp only [bne_iff_ne, ne_eq, Int.ofNat_inj]
  intro e
  apply h
  apply UInt8.toNat_inj.1
  rw [e, UInt8.toNat_ofNat_of_lt' hn]
theorem u8_eqN {b : UInt8} {n : Nat} (hn : n < 256) (h : b = UInt8.ofNat n) : ((b.toNat : Int) != (n : Int)) = false := by
  subst h
  rw [UInt8.toNat_ofNat_of_lt' hn]
  simp
theorem byteAt_ix {s : ByteArray} {i : Nat} (h : i < s.size) : byteAt s i = s[i] := by simp [byteAt, List.getD, h]; rfl
end Go.Proofs.YtibhohpamnpkcaaGreatDoor

/- label.small, label.marks, label.coded, label.plain. -/
namespace Go.Proofs.YtibhohpamnpkcaaGreatDoor
open Go.RowKit

def lettersS : ByteArray := ⟨#[97, 98, 99, 100, 101, 102, 103, 104, 105, 106, 107, 108, 109, 110, 111, 112, 113, 114, 115, 116, 117, 118, 119, 120, 121, 122, 48, 49, 50, 51, 52, 53, 54, 55, 56, 57, 45]⟩
theorem letters_has (n : Nat) (h : n < 128) : decide (0 ≤ Lib.indexByte lettersS.data.toList (n.toUInt8)) = smallZ (n : Int) := by
  have : ∀ n : Fin 128, decide (0 ≤ Lib.indexByte lettersS.data.toList (n.1.toUInt8)) = smallZ (n.1 : Int) := by decide +kernel
  exact this ⟨n, h⟩
set_option maxHeartbeats 1600000 in
theorem ref10_small (c : Int) (w : World) (h1 : -9223372036854775808 ≤ c) (h2 : c ≤ 9223372036854775807) :
    Calls Tryz.prog 173 #[.int .i64 c] w fun e w' => e = .returned (.bool (smallZ c)) ∧ w = w' := by
  have HX := Lib.hid (show ∀ b : Bool, ((((97 ≤ c ∧ c ≤ 122) ∨ (48 ≤ c ∧ c ≤ 57) ∨ c = 45) ↔ b = true)) → smallZ c = b from fun b h => by
    unfold smallZ
    cases b
    · exact decide_eq_false fun hh => by cases h.1 hh
    · exact decide_eq_true (h.2 rfl))
  by_cases a : c ≥ 97
  · by_cases b : c ≤ 122
    · go_enter Tryz.func173, Tryz.ntmps173
      go_wp2_with fail
      go_ret
      exact ⟨ret_bool (HX.out true (by simp; omega)).symm, rfl⟩
    · have n1 : c ≥ 48 := by omega
      have n2 : ¬ c ≤ 57 := by omega
      have n3 : (c == 45) = false := by rw [beq_eq_false_iff_ne]; omega
      go_enter Tryz.func173, Tryz.ntmps173
      go_wp2_with fail
      go_ret
      exact ⟨ret_bool (HX.out false (by simp; omega)).symm, rfl⟩
  · by_cases b : c ≥ 48
    · by_cases d : c ≤ 57
      · go_enter Tryz.func173, Tryz.ntmps173
        go_wp2_with fail
        go_ret
        exact ⟨ret_bool (HX.out true (by simp; omega)).symm, rfl⟩
      · have n3 : (c == 45) = false := by rw [beq_eq_false_iff_ne]; omega
        go_enter Tryz.func173, Tryz.ntmps173
        go_wp2_with fail
        go_ret
        exact ⟨ret_bool (HX.out false (by simp; omega)).symm, rfl⟩
    · by_cases d : c = 45
      · have n3 : (c == 45) = true := by rw [beq_iff_eq]; exact d
        have HV := Lib.hid (HX.out true (by simp; omega))
        clear d
        go_enter Tryz.func173, Tryz.ntmps173
        go_wp2_with fail
        go_ret
        exact ⟨ret_bool HV.out.symm, rfl⟩
      · have n3 : (c == 45) = false := by rw [beq_eq_false_iff_ne]; exact d
        have HV := Lib.hid (HX.out false (by simp; omega))
        go_enter Tryz.func173, Tryz.ntmps173
        go_wp2_with fail
        go_ret
        exact ⟨ret_bool HV.out.symm, rfl⟩
end Go.Proofs.YtibhohpamnpkcaaGreatDoor

/- label.marks, label.plain. -/
namespace Go.Proofs.YtibhohpamnpkcaaGreatDoor
open Go.RowKit

theorem marks_yes {l : List Nat} (h : 0 < l.length) (h0 : l.getD 0 0 ≠ 45) (h1 : l.getD (l.length - 1) 0 ≠ 45) (h2 : l.length < 4 ∨ l.getD 2 0 ≠ 45 ∨ l.getD 3 0 ≠ 45) : marksL l = true := decide_eq_true ⟨h, h0, h1, h2⟩
theorem marks_no {l : List Nat} (h : ¬ (0 < l.length ∧ l.getD 0 0 ≠ 45 ∧ l.getD (l.length - 1) 0 ≠ 45 ∧ (l.length < 4 ∨ l.getD 2 0 ≠ 45 ∨ l.getD 3 0 ≠ 45))) : marksL l = false := decide_eq_false h
theorem OwnN.getD {w : World} {base : Nat} {a : Option Addr} {n c : Nat} {l : List Nat} (h : OwnN w base (.slice a n c) l) (h0 : 0 < l.length) : ∃ g, a = some ⟨g, 0, none⟩ ∧ l.length ≤ c ∧ c ≤ maxLen ∧ ∀ j, j < l.length → w.cell? ⟨g, j, none⟩ = some (.int .i64 ((l.getD j 0 : Nat) : Int)) := by
  obtain ⟨g, rfl, _, _, h1, h2, _⟩ := h.cellAt h0
  refine ⟨g, rfl, h1, h2, fun j hj => ?_⟩
  obtain ⟨g', e, _, _, _, _, hc⟩ := h.cellAt hj
  cases e
  rw [hc]
  simp [List.getD, hj]
theorem beq45 (n : Nat) : ((n : Int) == 45) = decide (n = 45) := by
  by_cases h : n = 45
  · subst h; rfl
  · rw [decide_eq_false h, beq_eq_false_iff_ne]; omega
theorem bne45 (n : Nat) : ((n : Int) != 45) = !decide (n = 45) := by
  by_cases h : n = 45
  · subst h; rfl
  · rw [decide_eq_false h]; show (!((n : Int) == 45)) = _; rw [beq45, decide_eq_false h]
end Go.Proofs.YtibhohpamnpkcaaGreatDoor

/- puny.Decode. -/
namespace Go.Proofs.YtibhohpamnpkcaaGreatDoor
open Go.RowKit

def lenV : Value → Nat
  | .slice _ n _ => n
  | _ => 0
end Go.Proofs.YtibhohpamnpkcaaGreatDoor

/- puny.Decode with a mark. -/
namespace Go.Proofs.YtibhohpamnpkcaaGreatDoor
open Go.RowKit

theorem byteAt_pre (s : ByteArray) (L j : Nat) (h : j < L) (hL : L ≤ s.size) : byteAt (s.extract 0 L) j = byteAt s j := by
  unfold byteAt
  rw [Lib.extract_data]
  simp [List.getD, List.getElem?_take, h]
theorem lastK_pos (s : ByteArray) : ∀ k, 0 < lastK s k → lastK s k < k := by
  intro k
  induction k with
  | zero => intro h; exact absurd (show 0 < 0 from h) (Nat.lt_irrefl 0)
  | succ k ih =>
    intro h
    have := lastK_lt s k
    unfold lastK at h ⊢
    split at h
    · rw [if_pos (by assumption)]; omega
    · rw [if_neg (by assumption)]; omega
theorem high_end {s : ByteArray} {k : Nat} : highF s 0 k = none := rfl
end Go.Proofs.YtibhohpamnpkcaaGreatDoor

/- puny.Decode, of any text. -/
namespace Go.Proofs.YtibhohpamnpkcaaGreatDoor
open Go.RowKit

end Go.Proofs.YtibhohpamnpkcaaGreatDoor

/- puny.Encode, of any numbers; the example of chapter 9's statements. -/
namespace Go.Proofs.YtibhohpamnpkcaaGreatDoor
open Go.RowKit

theorem enc_nil : encE [] = .ok [] := rfl
/-! ### The example -/
theorem ints_lit (w : World) (l : List Int) (n : Nat) (cs : Array Value) (h : cs = (l.map (Value.int .i64)).toArray) (hn : n = l.length) (hl : 0 < l.length) (hm : l.length ≤ 1000) : IntsSl (w.alloc (.cells cs 3)) (.slice (some ⟨w.heap.size, 0, none⟩) n n) l := by
  subst h hn
  refine .inr ⟨w.heap.size, 0, l.length, rfl, Nat.le_refl _, by unfold maxLen; omega, by simp, fun j hj => ?_⟩
  rw [World.cell?_alloc_at _ _ _ _ rfl]
  simp [List.getD, hj]
theorem sp09E : encE [98, 252, 99, 104, 101, 114] = .ok [98, 99, 104, 101, 114, 45, 107, 118, 97] := by
  rw [encE_ok (by decide) (by decide +kernel)]
  exact congrArg _ sp09
end Go.Proofs.YtibhohpamnpkcaaGreatDoor

/- What is read is characters, and not too many. -/
namespace Go.Proofs.YtibhohpamnpkcaaGreatDoor
open Go.RowKit

theorem insL_mem {l : List Nat} {i x c : Nat} (h : c ∈ insL l i x) : c ∈ l ∨ c = x := by
  unfold insL at h
  rcases List.mem_append.1 h with h | h
  · exact .inl (List.mem_of_mem_take h)
  · rcases List.mem_cons.1 h with h | h
    · exact .inr h
    · exact .inl (List.mem_of_mem_drop h)
theorem decF_facts (s : ByteArray) : ∀ (f : Nat) (u : DSt) (l : List Nat), decF s f u = .ok l → (∀ c ∈ u.out, rightB (c : Int) = true) → u.out.length ≤ 256 → (∀ c ∈ l, rightB (c : Int) = true) ∧ l.length ≤ 256 := by
  intro f
  induction f with
  | zero =>
    intro u l h h1 h2
    cases h
    exact ⟨h1, h2⟩
  | succ f ih =>
    intro u l h h1 h2
    by_cases ha : s.size ≤ u.a
    · rw [dec_end ha] at h
      cases h
      exact ⟨h1, h2⟩
    cases hR : rdN s u.a u.bias with
    | error e => rw [dec_err (by omega) hR] at h; cases h
    | ok it =>
      obtain ⟨i, t⟩ := it
      cases hr : rightB ((u.n + (u.place + i) / (u.out.length + 1) : Nat) : Int) with
      | false => rw [dec_bad (by omega) hR hr] at h; cases h
      | true =>
        by_cases hm : 256 < u.out.length + 1
        · rw [dec_many (by omega) hR hr hm] at h; cases h
        · rw [dec_next (by omega) hR hr hm] at h
          have hml : (u.place + i) % (u.out.length + 1) < u.out.length + 1 := Nat.mod_lt _ (by omega)
          refine ih _ l h (fun c hc => ?_) ?_
          · rcases insL_mem hc with hc | rfl
            · exact h1 c hc
            · exact hr
          · dsimp only
            rw [insL_len _ _ _ (by omega)]
            omega
theorem high_all (s : ByteArray) : ∀ r k, highF s r k = none → ∀ j, j < r → (byteAt s (k + j)).toNat < 128 := by
  intro r
  induction r with
  | zero => intro k _ j hj; omega
  | succ r ih =>
    intro k h j hj
    by_cases h1 : 128 ≤ (byteAt s k).toNat
    · rw [high_hit h1] at h; cases h
    · rw [high_next h1] at h
      cases j with
      | zero => rw [Nat.add_zero]; omega
      | succ j =>
        have := ih (k + 1) h j (by omega)
        rwa [show k + (j + 1) = k + 1 + j by omega]
theorem right_small {c : Nat} (h : c < 128) : rightB (c : Int) = true := (rightC_iff c).1 (.inl (by omega))
theorem decE_facts {s : ByteArray} {l : List Nat} (h : decE s = .ok l) : (∀ c ∈ l, rightB (c : Int) = true) ∧ l.length ≤ 256 := by
  by_cases hl : 1024 < s.size
  · rw [decE_long hl] at h; cases h
  cases hh : highF s (lastK s s.size) 0 with
  | some j => rw [decE_high hl hh] at h; cases h
  | none =>
    rw [decE_low hl hh] at h
    by_cases h2 : 256 < lastK s s.size
    · rw [dec_long h2] at h; cases h
    · rw [dec_short h2] at h
      refine decF_facts s _ _ l h (fun c hc => ?_) (by dsimp only; rw [headN_len]; omega)
      obtain ⟨j, hj, rfl⟩ := List.mem_map.1 hc
      have := high_all s _ _ hh j (List.mem_range.1 hj)
      rw [Nat.zero_add] at this
      exact right_small this
end Go.Proofs.YtibhohpamnpkcaaGreatDoor

/- label.decode. -/
namespace Go.Proofs.YtibhohpamnpkcaaGreatDoor
open Go.RowKit

def LDecPost (s : ByteArray) (w : World) (e : Ending) (w' : World) : Prop := Below w.heap.size w w' ∧
  ((labD s = none ∧ e = .returned (.tuple #[.slice none 0 0, .bool false])) ∨ ∃ (l : List Nat) (v : Value), labD s = some l ∧ e = .returned (.tuple #[v, .bool true]) ∧ OwnN w' w.heap.size v l)
theorem wideL_snoc (l : List Nat) (i : Nat) (h : i < l.length) : wideL (l.take (i + 1)) = (wideL (l.take i) || decide (128 ≤ l.getD i 0)) := by
  have e : l.take (i + 1) = l.take i ++ [l.getD i 0] := by rw [List.take_succ_eq_append_getElem h]; simp [List.getD, h]
  unfold wideL
  rw [e, List.any_append]
  simp
theorem allB_snoc (l : List Nat) (i : Nat) (h : i < l.length) : (l.take (i + 1)).all mayB = ((l.take i).all mayB && mayB (l.getD i 0)) := by
  have e : l.take (i + 1) = l.take i ++ [l.getD i 0] := by rw [List.take_succ_eq_append_getElem h]; simp [List.getD, h]
  rw [e, List.all_append]
  simp
theorem allB_not {l : List Nat} {i : Nat} (h : i < l.length) (h2 : mayB (l.getD i 0) = false) : l.all mayB = false := by
  cases ha : l.all mayB with
  | false => rfl
  | true =>
    have := List.all_eq_true.1 ha (l.getD i 0) (by simp [List.getD, h])
    rw [h2] at this
    cases this
theorem str_beq (a b : List UInt8) : ((⟨a.toArray⟩ : ByteArray).toList == (⟨b.toArray⟩ : ByteArray).toList) = decide (a = b) := by
  rw [ByteArray.toList_eq, ByteArray.toList_eq]
  show (a == b) = _
  by_cases h : a = b
  · subst h; simp
  · rw [decide_eq_false h]; simpa using h
end Go.Proofs.YtibhohpamnpkcaaGreatDoor

/- label.Right. -/
namespace Go.Proofs.YtibhohpamnpkcaaGreatDoor
open Go.RowKit

/-- An error of a kind at a place that came from no other; 0: none. -/
def IsE (w : World) (v : Value) (k i : Nat) : Prop := (k = 0 ∧ v = .nilIface) ∨ (k ≠ 0 ∧ IsFault w v k i)
theorem IsE.below {w w' : World} {v : Value} {k i : Nat} (h : IsE w v k i) (hb : Below w.heap.size w w') : IsE w' v k i := by
  rcases h with h | ⟨h, h2⟩
  · exact .inl h
  · exact .inr ⟨h, FaultIs.below h2 hb⟩
theorem IsE.err {w : World} {v : Value} {k i : Nat} (h : IsE w v k i) : IsErr w v k i := by
  rcases h with h | ⟨h, h2⟩
  · exact .inl h
  · exact .inr ⟨h, _, h2⟩
def LRightPost (s : ByteArray) (w : World) (e : Ending) (w' : World) : Prop := Below w.heap.size w w' ∧ ∃ v, e = .returned v ∧ IsE w' v (rightL s).1 (rightL s).2
theorem badAt_lt (s : ByteArray) : ∀ r k i, badAt s r k = some i → k ≤ i ∧ i < k + r := by
  intro r
  induction r with
  | zero => intro k i h; cases h
  | succ r ih =>
    intro k i h
    cases hs : smallZ ((byteAt s k).toNat : Int) with
    | true => rw [bad_next hs] at h; have := ih _ _ h; omega
    | false => rw [bad_hit hs] at h; cases h; omega
theorem u8_bne (b : UInt8) : ((b.toNat : Int) != 45) = decide (b ≠ 45) := by
  by_cases h : b = 45
  · subst h; rfl
  · rw [decide_eq_true h, bne_iff_ne]
    intro e
    apply h
    apply UInt8.toNat_inj.1
    show b.toNat = 45
    omega
theorem str_ix {s : ByteArray} {k : Nat} (h : k < s.size) : s[k] = byteAt s k := by simp [byteAt, List.getD, h]; rfl
end Go.Proofs.YtibhohpamnpkcaaGreatDoor
