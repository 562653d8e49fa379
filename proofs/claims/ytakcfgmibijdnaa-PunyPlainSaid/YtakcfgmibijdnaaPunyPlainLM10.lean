/- Rows of numbers of the call's own: appending a row to one; parts of one. -/
import Derived.Test.YtakcfgmibijdnaaPunyPlainLM2
import Derived.Test.YtakcfgmibijdnaaPunyPlainLM5
import Derived.Test.YtakcfgmibijdnaaPunyPlainLM6
import Derived.Test.YtakcfgmibijdnaaPunyPlainLM9
import Derived.Test.YtakcfgmibijdnaaPunyPlainLM4

namespace Go.Proofs.Ytakcfgmibijdnaa
open Go.RowKit

def intsN (l : List Nat) : List Int := l.map fun c : Nat => (c : Int)
theorem intsN_len (l : List Nat) : (intsN l).length = l.length := by simp [intsN]
theorem intsN_app (a b : List Nat) : intsN (a ++ b) = intsN a ++ intsN b := by simp [intsN]
theorem intsN_at (l : List Nat) (j : Nat) (h : j < l.length) : (intsN l).getD j 0 = (l[j] : Int) := by simp [intsN, List.getD, h]
theorem OwnN.cellAt {w : World} {base : Nat} {a : Option Addr} {n c : Nat} {l : List Nat} (h : OwnN w base (.slice a n c) l) {j : Nat} (hj : j < l.length) : ∃ g, a = some ⟨g, 0, none⟩ ∧ base ≤ g ∧ g < w.heap.size ∧ l.length ≤ c ∧ c ≤ maxLen ∧ w.cell? ⟨g, j, none⟩ = some (.int .i64 (l[j] : Int)) := by
  rcases h.2 with ⟨e, h0⟩ | ⟨g, cap, cur, e, hg, hh, h1, h2, _⟩
  · omega
  · cases e
    have := World.ownsRow.cellAt h j (by omega)
    refine ⟨g, rfl, hg, lt_of_block hh, h1, h2, ?_⟩
    rw [this]
    simp [hj, intV]
/-- A part of a row of the call's own. -/
theorem OwnN.part {w : World} {base g c : Nat} {n : Nat} {l : List Nat} (h : OwnN w base (.slice (some ⟨g, 0, none⟩) n c) l) (i j cp : Nat) (hij : i ≤ j) (hj : j ≤ l.length) (hcp : j - i ≤ cp) (hcm : cp ≤ maxLen) : IntsSl w (.slice (some ⟨g, i, none⟩) (j - i) cp) (intsN ((l.take j).drop i)) := by
  have hlen : ((l.take j).drop i).length = j - i := by simp; omega
  by_cases h0 : j - i = 0
  · refine .inl ⟨?_, some ⟨g, i, none⟩, cp, by rw [h0]⟩
    rw [List.eq_nil_of_length_eq_zero (by omega : ((l.take j).drop i).length = 0)]; rfl
  · have hl0 : 0 < l.length := by omega
    obtain ⟨g', e, _, hg, _, _, _⟩ := h.cellAt (j := 0) hl0
    cases e
    refine .inr ⟨g, i, cp, by rw [intsN_len, hlen], by rw [intsN_len, hlen]; exact hcp, hcm, hg, fun k hk => ?_⟩
    rw [intsN_len, hlen] at hk
    obtain ⟨g', e, _, _, _, _, hc⟩ := h.cellAt (j := i + k) (by omega)
    cases e
    rw [hc, intsN_at _ _ (by omega)]
    simp
theorem OwnN.sl {w : World} {base : Nat} {v : Value} {l : List Nat} (h : OwnN w base v l) : IntsSl w v (intsN l) := by
  rcases h.2 with ⟨e, h0⟩ | ⟨g, cap, cur, e, hg, hh, h1, h2, _⟩
  · rw [List.eq_nil_of_length_eq_zero h0]; subst e; exact .inl ⟨rfl, none, 0, rfl⟩
  · subst e
    refine .inr ⟨g, 0, cap, by rw [intsN_len], by rw [intsN_len]; exact h1, h2, lt_of_block hh, fun k hk => ?_⟩
    rw [intsN_len] at hk
    obtain ⟨g', e, _, _, _, _, hc⟩ := h.cellAt (j := k) hk
    cases e
    rw [Nat.zero_add, hc, intsN_at _ _ hk]
theorem OwnN.lit0 (w : World) (base : Nat) (hb : base ≤ w.heap.size) : OwnN (w.alloc (.cells #[] 3)) base (.slice (some ⟨w.heap.size, 0, none⟩) 0 0) [] :=
  World.ownsRow_lit w #[] 0 hb (Nat.zero_le _) rfl
/-- A row of any numbers of the call's own. -/
def OwnZ (w : World) (base : Nat) (v : Value) (l : List Int) : Prop := w.ownsRow base 3 1 v l.length (l.map (Value.int .i64))
theorem ownZ_N {w : World} {base : Nat} {v : Value} {l : List Nat} : OwnZ w base v (intsN l) ↔ OwnN w base v l := by
  unfold OwnZ OwnN
  rw [intsN_len]
  have : (intsN l).map (Value.int .i64) = l.map intV := by unfold intsN; rw [List.map_map]; rfl
  rw [this]
theorem OwnZ.below {w w' : World} {base : Nat} {v : Value} {l : List Int} (h : OwnZ w base v l) (hb : Below w.heap.size w w') : OwnZ w' base v l := ownsRow_below h hb
theorem OwnZ.lit0 (w : World) (base : Nat) (hb : base ≤ w.heap.size) : OwnZ (w.alloc (.cells #[] 3)) base (.slice (some ⟨w.heap.size, 0, none⟩) 0 0) [] :=
  World.ownsRow_lit w #[] 0 hb (Nat.zero_le _) rfl
theorem OwnZ.sl {w : World} {base : Nat} {v : Value} {l : List Int} (h : OwnZ w base v l) : IntsSl w v l := by
  rcases h.2 with ⟨e, h0⟩ | ⟨g, cap, cur, e, hg, hh, h1, h2, _⟩
  · rw [List.eq_nil_of_length_eq_zero h0]; subst e; exact .inl ⟨rfl, none, 0, rfl⟩
  · subst e
    refine .inr ⟨g, 0, cap, rfl, h1, h2, lt_of_block hh, fun k hk => ?_⟩
    have := World.ownsRow.cellAt h k (by omega)
    rw [Nat.zero_add, this]
    simp [hk, List.getD]
theorem wpList_app_intsZ {w : World} {ops : Array Oper} {rest : List Oper} {o : Oper} {a : Act} {Q : Exit → Act → World → Prop} (hgd : o.guard = none) (s x : Operand) (ho : o.op = .call { callee := .builtin .append, args := #[s, x], argTypes := #[23, 23] })
    (base : Nat) (v : Value) (l : List Int) (hs : a.eval s = v) (hown : OwnZ w base v l) (y : Value) (S : List Int) (hx : a.eval x = y) (hy : IntsSl w y S)
    (hl : l.length + S.length ≤ 1073741824) (hbase : base ≤ w.heap.size)
    (h : ∀ v' w', OwnZ w' base v' (l ++ S) → w.grownBy w' v.ownBlock → wpList Try.prog ops Q rest (a.put o.dst v') w') : wpList Try.prog ops Q (o :: rest) a w := by
  obtain ⟨i, hi, hz, hsize, hby⟩ := info_parts info_int
  rcases hy with ⟨rfl, ad, cap, rfl⟩ | ⟨b, off, cap, rfl, hc, hcm, hbs, hp⟩
  · have hsrc : Src Try.prog i.size 23 (.slice ad 0 cap) 0 [] w := by
      cases ad with
      | none => exact Src.ofNil w Try.underlying23 cap
      | some ad => exact Src.ofSlice w Try.underlying23 ad 0 cap [] (by simp) (by simp) (by simp)
    refine wpList_plain hgd fun K hK => ?_
    have hrun : (Builtin.append_ #[23, 23] o.type #[v, .slice ad 0 cap]).run Try.prog w = .ok v w := by
      rcases hown.2 with ⟨e, _⟩ | ⟨g, c, cur, e, _, _, h1, _⟩
      · subst e
        exact run_append_nothing w _ _ _ 3 i Try.underlying23 hi none 0 0 (Nat.le_refl _) _ hsrc
      · subst e
        exact run_append_nothing w _ _ _ 3 i Try.underlying23 hi _ _ _ h1 _ hsrc
    unfold Oper.wp
    simp [execOp, ho, resolve, invoke, builtin, hs, hx, hrun, Result.andThen]
    refine hK _ _ (h v w (by rw [List.append_nil]; exact hown) (below_grownBy (Below.refl _ _) _))
  · refine wpList_append_own _ hgd s x 23 ho base 3 i (.int .i64 0) 1 8 Try.underlying23 hi hz hsize hby rfl (by decide) v _ _ hs hown _ _ cap (S.map (Value.int .i64)) hx (by simp) ?_ ?_ (by unfold maxLen; omega) (by omega) hbase ?_
    · intro j u hj
      have hj' : j < S.length := by
        have := (List.getElem?_eq_some_iff.1 hj).1
        simpa using this
      rw [Addr.add_lit, hp j hj', ← hj]
      simp [hj', List.getD]
    · intro u hu
      obtain ⟨_, _, rfl⟩ := List.mem_map.1 hu
      rfl
    · intro v' w' h1 h2 _
      refine h v' w' ?_ h2
      unfold OwnZ
      rw [List.length_append, List.map_append]
      exact h1
theorem wpList_app_ints {w : World} {ops : Array Oper} {rest : List Oper} {o : Oper} {a : Act} {Q : Exit → Act → World → Prop} (hgd : o.guard = none) (s x : Operand) (ho : o.op = .call { callee := .builtin .append, args := #[s, x], argTypes := #[23, 23] })
    (base : Nat) (v : Value) (l : List Nat) (hs : a.eval s = v) (hown : OwnN w base v l) (y : Value) (S : List Nat) (hx : a.eval x = y) (hy : IntsSl w y (intsN S))
    (hl : l.length + S.length ≤ 1073741824) (hbase : base ≤ w.heap.size)
    (h : ∀ v' w', OwnN w' base v' (l ++ S) → w.grownBy w' v.ownBlock → wpList Try.prog ops Q rest (a.put o.dst v') w') : wpList Try.prog ops Q (o :: rest) a w := by
  refine wpList_app_intsZ hgd s x ho base v (intsN l) hs (ownZ_N.2 hown) y (intsN S) hx hy (by rw [intsN_len, intsN_len]; exact hl) hbase fun v' w' h1 h2 => h v' w' ?_ h2
  rw [← intsN_app] at h1
  exact ownZ_N.1 h1
end Go.Proofs.Ytakcfgmibijdnaa

/- Characters below 128, great letters: plain facts. -/
namespace Go.Proofs.Ytakcfgmibijdnaa
open Go.RowKit

theorem nats_intsN (l : List Nat) : nats (intsN l) = l := by
  unfold nats intsN
  rw [List.map_map]
  conv => rhs; rw [← List.map_id l]
  exact List.map_congr_left fun x _ => by simp
theorem intsN_right : ∀ (l : List Nat), (∀ c ∈ l, rightB (c : Int) = true) → rightLen (intsN l) = (intsN l).length := by
  intro l
  induction l with
  | nil => intro _; rfl
  | cons c l ih =>
    intro h
    show (if rightB (c : Int) = true then rightLen (intsN l) + 1 else 0) = (intsN l).length + 1
    rw [if_pos (h c (by simp)), ih fun d hd => h d (by simp [hd])]
theorem enc_nats {l : List Nat} (h : ∀ c ∈ l, rightB (c : Int) = true) (hl : l.length ≤ 256) : encE (intsN l) = .ok (encN l) := by
  rw [encE_ok (by rw [intsN_len]; omega) (intsN_right l h), nats_intsN]
def asc (s : ByteArray) (k : Nat) : List Nat := (List.range k).map fun j => (byteAt s j).toNat % 128
theorem asc_succ (s : ByteArray) (k : Nat) : asc s (k + 1) = asc s k ++ [(byteAt s k).toNat % 128] := by unfold asc; rw [List.range_succ, List.map_append]; rfl
theorem asc_len (s : ByteArray) (k : Nat) : (asc s k).length = k := by unfold asc; simp
theorem asc_lt {s : ByteArray} {k c : Nat} (h : c ∈ asc s k) : c < 128 := by
  obtain ⟨j, _, rfl⟩ := List.mem_map.1 h
  exact Nat.mod_lt _ (by decide)
theorem and_127 (c : UInt8) : bits .and .u8 (c.toNat : Int) 127 = ((c.toNat % 128 : Nat) : Int) := by
  have : ∀ n : Fin 256, bits .and .u8 (n.1 : Int) 127 = ((n.1 % 128 : Nat) : Int) := by decide +kernel
  exact this ⟨c.toNat, c.toNat_lt⟩
theorem small_right {c : Nat} (h : c < 128) : rightB (c : Int) = true := (rightC_iff c).1 (.inl (by omega))
/-- Characters below 128 are encoded as they are, with a mark behind them. -/
theorem enc_small {l : List Nat} (h : ∀ c ∈ l, c < 128) (h0 : l ≠ []) : encN l = basicL l ++ [45] ∧ (basicL l).length = l.length := by
  have hm : markL l = [] := by
    cases hml : markL l with
    | nil => rfl
    | cons m ms =>
      have := (markL_mem l m).1 (by rw [hml]; simp)
      have := h m this.1
      omega
  have hb : (basicL l).length = l.length := by
    unfold basicL
    rw [List.length_map, List.filter_eq_self.2 (fun c hc => by simpa using h c hc)]
  refine ⟨?_, hb⟩
  unfold encN
  rw [hm]
  show basicO l = _
  unfold basicO
  rw [if_neg (by rw [hb]; intro e; exact h0 (List.eq_nil_of_length_eq_zero e))]
/-- The characters from 128 on among numbers. -/
def wideZ (l : List Int) : List Nat := (l.filter fun z => rightB z && decide (128 ≤ z)).map Int.toNat
theorem wideZ_snoc (l : List Int) (z : Int) : wideZ (l ++ [z]) = if rightB z = true ∧ 128 ≤ z then wideZ l ++ [z.toNat] else wideZ l := by
  unfold wideZ
  rw [List.filter_append, List.map_append]
  by_cases h : rightB z = true ∧ 128 ≤ z
  · rw [if_pos h]; simp [h.1, h.2]
  · rw [if_neg h]
    have : (rightB z && decide (128 ≤ z)) = false := by
      cases hr : rightB z with
      | false => rfl
      | true => simp; exact Int.not_le.1 fun h2 => h ⟨hr, h2⟩
    simp [this]
theorem wideZ_mem {l : List Int} {c : Nat} (h : c ∈ wideZ l) : rightB (c : Int) = true ∧ 128 ≤ c := by
  obtain ⟨z, hz, rfl⟩ := List.mem_map.1 h
  have := (List.mem_filter.1 hz).2
  simp at this
  rw [Int.toNat_of_nonneg (by omega)]
  exact ⟨this.1, by omega⟩
theorem wideZ_len (l : List Int) : (wideZ l).length ≤ l.length := by unfold wideZ; rw [List.length_map]; exact List.length_filter_le _ _
def upC (c : UInt8) : UInt8 := if 97 ≤ c.toNat ∧ c.toNat ≤ 122 then UInt8.ofNat (c.toNat - 32) else c
theorem upC_val (c : UInt8) : valN (upC c) = valN c := by
  have : ∀ n : Fin 256, valN (upC (UInt8.ofNat n.1)) = valN (UInt8.ofNat n.1) := by decide +kernel
  have := this ⟨c.toNat, c.toNat_lt⟩
  simpa using this
theorem basicO_wide {l : List Nat} (h : ∀ c ∈ l, 128 ≤ c) : basicO l = [] := by
  unfold basicO
  rw [if_pos]
  unfold basicL
  rw [List.length_map, List.filter_eq_nil_iff.2 (fun c hc => by have := h c hc; simp; omega)]
  rfl
/-- Great letters among the digits are as good as small ones. -/
theorem dec_great {l : List Nat} (h : ∀ c ∈ l, rightB (c : Int) = true ∧ 128 ≤ c) (hl : l.length ≤ 256) (h1024 : (encN l).length ≤ 1024) : decE ⟨((encN l).map upC).toArray⟩ = .ok l := by
  have hsz : (⟨((encN l).map upC).toArray⟩ : ByteArray).size = (encN l).length := by show ((encN l).map upC).toArray.size = _; simp
  have hO := basicO_wide fun c hc => (h c hc).2
  refine dec_enc l (fun c hc => (h c hc).1) hl _ hsz (by omega) (fun k _ hk => ?_) (fun k hk => by rw [hO] at hk; exact absurd hk (Nat.not_lt_zero _))
  have : byteAt ⟨((encN l).map upC).toArray⟩ k = upC ((encN l).getD k 0) := by simp [byteAt, List.getD, hk]
  rw [this, upC_val]
theorem roundK_inv {cs : List Nat} {basic m n : Nat} {s : PSt} (h : PInv cs n s) (hl : cs.length ≤ 256) (hnm : n ≤ m) (hm : m ≤ 1114111) : ∀ k, k ≤ cs.length → PIn cs m k (roundK cs basic m n s k) := by
  intro k
  induction k with
  | zero => intro _; exact h.start hl hnm
  | succ k ih =>
    intro hk
    have hk' : k < cs.length := hk
    rw [roundK_succ (List.getElem?_eq_getElem hk')]
    exact (ih (by omega)).step hm hl (List.getElem?_eq_getElem hk')
theorem encR_inv (cs : List Nat) (basic : Nat) (hl : cs.length ≤ 256) : ∀ (ms : List Nat) (n : Nat) (s : PSt), ms.Pairwise (· < ·) → (∀ m ∈ ms, n ≤ m ∧ m ≤ 1114111) → PInv cs n s → ∃ n', PInv cs n' (encR cs basic ms n s) := by
  intro ms
  induction ms with
  | nil => intro n s _ _ h; exact ⟨n, h⟩
  | cons m ms ih =>
    intro n s hp hm h
    have hp' := List.pairwise_cons.1 hp
    obtain ⟨h1, h2⟩ := hm m (by simp)
    have h3 := roundK_inv (basic := basic) h hl h1 h2 cs.length (Nat.le_refl _)
    rw [roundK_all] at h3
    exact ih (m + 1) _ hp'.2 (fun x hx => ⟨hp'.1 x hx, (hm x (by simp [hx])).2⟩) (h3.next hl)
theorem encN_len {cs : List Nat} (hl : cs.length ≤ 256) (h : ∀ c ∈ cs, rightB (c : Int) = true) : (encN cs).length ≤ 3000 := by
  obtain ⟨n', h1⟩ := encR_inv cs (basicL cs).length hl (markL cs) 128 ⟨0, 72, (basicL cs).length, basicO cs⟩ (markL_up cs) (fun m hm => by
    have := (markL_mem cs m).1 hm
    obtain ⟨c, e, _, h2⟩ := right_nat (h m this.1)
    exact ⟨this.2, by omega⟩) (PInv.zero cs hl)
  have h2 := h1.2.2.1
  have h3 := h1.2.2.2
  have h4 : (cs.filter fun c => decide (c < n')).length ≤ cs.length := List.length_filter_le _ _
  have e : (encN cs).length = (encR cs (basicL cs).length (markL cs) 128 ⟨0, 72, (basicL cs).length, basicO cs⟩).out.length := rfl
  omega
/-- Great letters up to a place. -/
def upTo (l : List UInt8) (i : Nat) : List UInt8 := (l.take i).map upC ++ l.drop i
theorem upTo_len (l : List UInt8) (i : Nat) : (upTo l i).length = l.length := by unfold upTo; simp; omega
theorem upTo_at {l : List UInt8} {i : Nat} (h : i < l.length) : (upTo l i).getD i 0 = l.getD i 0 := by
  unfold upTo
  simp only [List.getD]
  rw [List.getElem?_append_right (by simp; omega)]
  have : i - ((l.take i).map upC).length = 0 := by simp; omega
  rw [this]
  simp
theorem upTo_set {l : List UInt8} {i : Nat} (h : i < l.length) : (upTo l i).set i (upC (l.getD i 0)) = upTo l (i + 1) := by
  unfold upTo
  have e : ((l.take i).map upC).length = i := by simp; omega
  rw [List.set_append_right _ _ (by omega), e, Nat.sub_self, List.drop_eq_getElem_cons h, List.set_cons_zero, List.take_succ_eq_append_getElem h, List.map_append]
  simp [List.getD, h]
theorem upTo_keep {l : List UInt8} {i : Nat} (h : i < l.length) (h2 : upC (l.getD i 0) = l.getD i 0) : upTo l (i + 1) = upTo l i := by
  rw [← upTo_set h, h2, ← upTo_at h]
  apply List.ext_getElem?
  intro j
  rw [List.getElem?_set]
  split
  · rename_i e; subst e
    have hj : i < (upTo l i).length := by rw [upTo_len]; exact h
    rw [if_pos hj]
    simp [List.getD, hj]
  · rfl
theorem upTo_all (l : List UInt8) : upTo l l.length = l.map upC := by unfold upTo; simp
end Go.Proofs.Ytakcfgmibijdnaa

/- Where a call's own bytes grow, what stood before stands. -/
namespace Go.Proofs.Ytakcfgmibijdnaa
open Go.RowKit

theorem OwnB.under {w0 w w' : World} {base : Nat} {v : Value} {l : List UInt8} (h : OwnB w base v l) (hb : Below w0.heap.size w0 w) (hB : w0.heap.size ≤ base) (hg : w.grownBy w' v.ownBlock) : Below w0.heap.size w0 w' :=
  hb.grown hg hb.size (fun j hj => Nat.le_trans hB (World.ownsRow.lt h j hj).1)
theorem row_len {w : World} {base : Nat} {e : TypeId} {size : Nat} {v : Value} {n : Nat} {xs : List Value} (h : w.ownsRow base e size v n xs) : ∃ a cap, v = .slice a n cap := by
  rcases h.2 with ⟨h0, h1⟩ | ⟨g, cap, cur, rfl, _⟩
  · exact ⟨none, 0, by rw [h0, h1]⟩
  · exact ⟨_, _, rfl⟩
end Go.Proofs.Ytakcfgmibijdnaa

/- puny.Decode. -/
namespace Go.Proofs.Ytakcfgmibijdnaa
open Go.RowKit

def lenV : Value → Nat
  | .slice _ n _ => n
  | _ => 0
set_option maxHeartbeats 12800000 in
set_option maxRecDepth 100000 in
theorem puny_Decode0 (s : ByteArray) (w : World) (hs : s.size ≤ 1024) (hI0 : Lib.lastIndexByte s 45 ≤ 0) : Calls Try.prog 6 #[.string s] w (DecPost s w) := by
  have hlk : lastK s s.size = 0 := by rw [lastK_idx s s.size (Nat.le_refl _)]; show (Lib.lastIndexByte s 45).toNat = 0; omega
  have hDD := decE_low (s := s) (by omega) (by rw [hlk]; rfl)
  rw [hlk] at hDD
  obtain ⟨L, hL⟩ : ∃ L : Nat, L = 0 := ⟨0, rfl⟩
  rw [← hL] at hDD
  have HDD := Lib.hid hDD
  have cI := Lib.hid (fun W => Try.strings_LastIndexByte s 45 (by omega) W)
  have hst : Below w.heap.size w (w.alloc (.cells #[.string s, .int .i64 0, .int .i64 72] 48)) := (Below.refl _ _).alloc (Nat.le_refl _) _
  have hrd0 : RdP (w.alloc (.cells #[.string s, .int .i64 0, .int .i64 72] 48)) w.heap.size s 0 72 := heap_alloc_new w _
  have HRDX := Lib.hid (show RdP (w.alloc (.cells #[.string s, .int .i64 0, .int .i64 72] 48)) w.heap.size s (if 0 < L then L + 1 else 0) 72 by rw [hL]; exact hrd0)
  have HBEX := Lib.hid hst
  have hown0 : OwnN (w.alloc (.cells #[.string s, .int .i64 0, .int .i64 72] 48)) (w.heap.size + 1) (.slice none 0 0) (headN s L) := by rw [hL]; exact World.ownsRow_nil _ _ _ _
  have HOWN := Lib.hid hown0
  generalize Lib.lastIndexByte s 45 = I at *
  clear hlk hDD hst hrd0 hown0
  go_enter Try.func6, Try.ntmps6
  go_wp2_with fail
  refine (cI.out _).mono ?_
  rintro e w2 ⟨rfl, hw2⟩
  obtain rfl := hw2.symm
  have hL256 : ¬ 256 < L := by omega
  have hdl := headN_len s L
  have HDF := Lib.hid (HDD.out.trans (dec_short hL256))
  have hA : (if 0 < L then L + 1 else 0) ≤ s.size := by split <;> omega
  have hL2 : (headN s L).length ≤ 256 := by omega
  clear hL256 hdl
  generalize (if 0 < L then L + 1 else 0) = A at *
  go_wp2_with fail
  go_loopw [2, 8, 9, 10] (fun v x y z wr => ∃ (f : Nat) (u : DSt), x = .int .i64 u.n ∧ y = .int .i64 u.place ∧ z = .bool u.first ∧ u.a ≤ s.size ∧ s.size ≤ u.a + f ∧ u.n ≤ 1114111 ∧ u.place ≤ 257 ∧ u.bias ≤ 1000000000000 ∧ u.out.length ≤ 256 ∧ decF s f u = decF s s.size ⟨A, 128, 0, 72, true, headN s L⟩ ∧ OwnN wr (w.heap.size + 1) v u.out ∧ RdP wr w.heap.size s u.a u.bias ∧ Below w.heap.size w wr) (fun v _ _ _ _ => 300 - lenV v)
  case atStart => exact ⟨s.size, ⟨A, 128, 0, 72, true, headN s L⟩, rfl, rfl, rfl, hA, by dsimp only; omega, by dsimp only; omega, by dsimp only; omega, by dsimp only; omega, hL2, rfl, HOWN.out, HRDX.out, HBEX.out⟩
  case round =>
    obtain ⟨f, u, rfl, rfl, rfl, hua, huf, hun, hup, hub, huo, hgo, hown, hrd, hbe⟩ := hrel
    obtain ⟨a1, cp1, hv1⟩ := row_len hown
    subst hv1
    obtain ⟨c0, c1, c2⟩ := hrd.cells
    have HBE := Lib.hid hbe
    have HRD := Lib.hid hrd
    have HOW := Lib.hid hown
    have hws := hbe.size
    have hwB : w.heap.size + 1 ≤ wr.heap.size := by have := lt_of_block hrd; omega
    by_cases hlt : u.a < s.size
    · have hltI : (u.a : Int) < (s.size : Int) := by omega
      obtain ⟨f', rfl⟩ : ∃ f', f = f' + 1 := ⟨f - 1, by omega⟩
      have cN := Lib.hid (reader_number w.heap.size u.a u.bias s wr hrd (by omega) hua hub)
      have hde := fun e h => dec_err (f := f') (e := e) hlt h
      have hdb := fun i t h => dec_bad (f := f') (i := i) (t := t) hlt h
      have hdm := fun i t h => dec_many (f := f') (i := i) (t := t) hlt h
      have hdn := fun i t h => dec_next (f := f') (i := i) (t := t) hlt h
      have HDE := Lib.hid hde
      have HDB := Lib.hid hdb
      have HDM := Lib.hid hdm
      have HDN := Lib.hid hdn
      have HGO := Lib.hid hgo
      clear hde hdb hdm hdn hgo hown hrd hbe
      go_wp2_with fail
      refine cN.out.mono ?_
      rintro e w3 ⟨hg3, h⟩
      have HB3 := Lib.hid (HBE.out.grown hg3 hws (fun j hj => by injection hj with hj; omega))
      have HO3 := Lib.hid (HOW.out.grown hg3 (by omega))
      have hs3 := hg3.size
      rcases h with ⟨k, j, q, hR, hk, rfl, hq⟩ | ⟨i, t, hR, rfl, hrd3⟩
      · have HE := Lib.hid (HDF.out.trans (HGO.out.symm.trans (HDE.out _ hR)))
        obtain ⟨qq, rfl⟩ := hq.ne_nil
        have HQ := Lib.hid hq
        clear hq hR hg3
        go_wp2_with fail
        go_ret2
        exact ⟨HB3.out, .inl ⟨k, j, _, HE.out, hk, rfl, HQ.out⟩⟩
      · have hbd := rdF_bounds s u.bias _ _ _ _ _ i t hR
        obtain ⟨d0, d1, d2⟩ := hrd3.cells
        have g2 := hrd3.frozen 2
        have HR3 := Lib.hid hrd3
        have hdm1 := HDB.out i t hR
        have hdm2 := HDM.out i t hR
        have hdm3 := HDN.out i t hR
        have hle : (u.place + i) / (u.out.length + 1) ≤ u.place + i := Nat.div_le_self _ _
        have hml : (u.place + i) % (u.out.length + 1) < u.out.length + 1 := Nat.mod_lt _ (by omega)
        have hdc : (((u.place + i) / (u.out.length + 1) : Nat) : Int) = ((u.place : Int) + (i : Int)) / ((u.out.length : Int) + 1) := by rw [Int.natCast_ediv]; simp
        have hmc : (((u.place + i) % (u.out.length + 1) : Nat) : Int) = ((u.place : Int) + (i : Int)) % ((u.out.length : Int) + 1) := by rw [Int.natCast_emod]; simp
        have hi2 := hbd.2.2
        have ht1 := hbd.1
        have ht2 := hbd.2.1
        have hdc0 : 0 ≤ ((u.place : Int) + (i : Int)) / ((u.out.length : Int) + 1) := by rw [← hdc]; exact Int.natCast_nonneg _
        have hdc1 : ((u.place : Int) + (i : Int)) / ((u.out.length : Int) + 1) ≤ 4000000000 := by rw [← hdc]; omega
        have hmc0 : 0 ≤ ((u.place : Int) + (i : Int)) % ((u.out.length : Int) + 1) := by rw [← hmc]; exact Int.natCast_nonneg _
        have hmc1 : ((u.place : Int) + (i : Int)) % ((u.out.length : Int) + 1) ≤ (u.out.length : Int) := by rw [← hmc]; omega
        have hnc : ((u.n + (u.place + i) / (u.out.length + 1) : Nat) : Int) = (u.n : Int) + ((u.place : Int) + (i : Int)) / ((u.out.length : Int) + 1) := by rw [Int.natCast_add, hdc]
        have cR := Lib.hid (fun W => puny_right ((u.n : Int) + ((u.place : Int) + (i : Int)) / ((u.out.length : Int) + 1)) W)
        rw [← hnc] at cR
        generalize hN : u.n + (u.place + i) / (u.out.length + 1) = N at *
        generalize hM : (u.place + i) % (u.out.length + 1) = M at *
        have HNC := Lib.hid hnc
        have HMC := Lib.hid hmc
        have HD1 := Lib.hid hdm1
        have HD2 := Lib.hid hdm2
        have HD3 := Lib.hid hdm3
        clear hdm1 hdm2 hdm3 hR hbd hdc hmc hnc hN hM hg3 hrd3 HDB HDM HDN HDE c0 c1 c2
        cases hr : rightB (N : Int) with
        | false =>
          have HE := Lib.hid (HDF.out.trans (HGO.out.symm.trans (HD1.out hr)))
          rw [hr] at cR
          clear hr
          go_wp2_with fail
          rw [← HNC.out]
          refine (cR.out _).mono ?_
          rintro e w5 ⟨rfl, hb5⟩
          obtain ⟨d0, d1, d2⟩ := (HR3.out.below hb5).cells
          have HB5 := Lib.hid (Bt HB3.out hb5)
          go_wp2_with fail
          refine (api_Fail' 16 _ _).mono ?_
          rintro e w9 ⟨q, rfl, hq, hb9⟩
          have hbE := HB5.out.trans (hb9.mono HB5.out.size)
          go_wp2_with fail
          go_ret2
          exact ⟨hbE, .inl ⟨16, t - 1, q, HE.out, by decide, rfl, by have := hq; rwa [show (t : Int) - 1 = ((t - 1 : Nat) : Int) by omega] at this⟩⟩
        | true =>
          rw [hr] at cR
          have hN1 : N ≤ 1114111 := by obtain ⟨c, hc, _, hc2⟩ := right_nat hr; omega
          by_cases hmany : 256 < u.out.length + 1
          · have HE := Lib.hid (HDF.out.trans (HGO.out.symm.trans (HD2.out hr hmany)))
            have hmI : (u.out.length : Int) + 1 > 256 := by omega
            clear hr hmany
            go_wp2_with fail
            rw [← HNC.out]
            refine (cR.out _).mono ?_
            rintro e w5 ⟨rfl, hb5⟩
            obtain ⟨d0, d1, d2⟩ := (HR3.out.below hb5).cells
            have HB5 := Lib.hid (Bt HB3.out hb5)
            go_wp2_with fail
            refine (api_Fail' 15 _ _).mono ?_
            rintro e w9 ⟨q, rfl, hq, hb9⟩
            have hbE := HB5.out.trans (hb9.mono HB5.out.size)
            go_wp2_with fail
            go_ret2
            exact ⟨hbE, .inl ⟨15, t - 1, q, HE.out, by decide, rfl, by have := hq; rwa [show (t : Int) - 1 = ((t - 1 : Nat) : Int) by omega] at this⟩⟩
          · have hmI : ¬ (u.out.length : Int) + 1 > 256 := by omega
            have hgo2 := (HD3.out hr hmany).symm.trans HGO.out
            have had := adaptN_le i (u.out.length + 1) u.first
            have cA' : ∀ W, Calls Try.prog 17 #[.int .i64 (i : Int), .int .i64 ((u.out.length : Int) + 1), .bool u.first] W fun e w' => e = .returned (.int .i64 ((adaptN i (u.out.length + 1) u.first : Nat) : Int)) ∧ W = w' := fun W => by
              have := puny_Adapt (i : Int) ((u.out.length + 1 : Nat) : Int) u.first W (by omega) (by omega)
              rw [adaptZ_nat _ _ _ (by omega)] at this
              simpa using this
            have CA := Lib.hid cA'
            have HGO2 := Lib.hid hgo2
            generalize adaptN i (u.out.length + 1) u.first = ad at *
            clear hr hmany cA' hgo2
            go_wp2_with fail
            rw [← HNC.out]
            refine (cR.out _).mono ?_
            rintro e w5 ⟨rfl, hb5⟩
            have hb6 : Below w5.heap.size w5 (w5.alloc (.cells #[intV N] 3)) := (Below.refl _ _).alloc (Nat.le_refl _) _
            have HB6 := Lib.hid (Bt (Bt HB3.out hb5) hb6)
            have HO6 := Lib.hid ((HO3.out.below hb5).below hb6)
            have HR6 := Lib.hid ((HR3.out.below hb5).below hb6)
            have hs6 := (Bt hb5 hb6).size
            have hnew := heap_alloc_new w5 (.cells #[intV N] 3)
            have cI' := ints_Insert (w.heap.size + 1) (.slice a1 u.out.length cp1) u.out M N w5.heap.size _ HO6.out (by omega) (by omega) (by omega) hnew (fun e => by have := (World.ownsRow.lt (HO3.out.below hb5) _ e).2; omega)
            have CI := Lib.hid cI'
            clear cI' hnew hb5 hb6
            go_wp2_with fail
            rw [← HMC.out]
            refine CI.out.mono ?_
            rintro e w7 ⟨v7, rfl, hown7, hg7⟩
            have HB7 := Lib.hid (HB6.out.grown hg7 HB6.out.size (fun j hj => by have := (World.ownsRow.lt HO6.out j hj).1; omega))
            have hrd7 := HR6.out.grown HO6.out (by omega) hg7
            obtain ⟨d0, d1, d2⟩ := hrd7.cells
            have g2 := hrd7.frozen 2
            have HR7 := Lib.hid hrd7
            have HO7 := Lib.hid hown7
            clear hrd7 hown7 hg7
            go_wp2_with fail
            refine (CA.out _).mono ?_
            rintro e w8 ⟨rfl, hw8⟩
            obtain rfl := hw8
            have hsetB := HR7.out.setB ad
            have hbS := HB7.out.setCell (show w.heap.size ≤ (⟨w.heap.size, 2, none⟩ : Addr).block from Nat.le_refl _) (.int .i64 (ad : Int))
            have hoS := HO7.out.grown (grown_set (grown_self _ _) 2 (.int .i64 (ad : Int))) (show w.heap.size < w.heap.size + 1 by omega)
            have HSB := Lib.hid hsetB
            have HBS := Lib.hid hbS
            have HOS := Lib.hid hoS
            have hil := insL_len u.out M N (by omega)
            have HIL := Lib.hid hil
            clear hsetB hbS hoS hil
            go_wp2_with fail
            go_roundw
            case rel => exact ⟨f', ⟨t, N, M + 1, ad, false, insL u.out M N⟩, rfl, by simp, rfl, ht2, by dsimp only; omega, hN1, by dsimp only; omega, by dsimp only; omega, by have := HIL.out; dsimp only; omega, HGO2.out, HOS.out, HSB.out, HBS.out⟩
            case measure => have := HIL.out; obtain ⟨z1, z2, z3⟩ := row_len HO7.out; subst z3; simp only [lenV]; omega
    · have hltI : ¬ (u.a : Int) < (s.size : Int) := by omega
      rw [dec_end (by omega)] at hgo
      have HE := Lib.hid (HDF.out.trans hgo.symm)
      clear hgo hown hrd hbe
      go_wp2_with fail
      go_ret2
      exact ⟨HBE.out, .inr ⟨u.out, _, HE.out, rfl, HOW.out.base' (by omega)⟩⟩
end Go.Proofs.Ytakcfgmibijdnaa
