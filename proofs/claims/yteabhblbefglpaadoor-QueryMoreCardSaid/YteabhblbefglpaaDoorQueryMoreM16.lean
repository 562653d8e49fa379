/- Rows of numbers that came in: rows of bytes, rows of ints. -/
import Derived.Test.YteabhblbefglpaaDoorQueryMoreM1
import Derived.Test.YteabhblbefglpaaDoorQueryMoreM2
import Derived.Deep.Strs
import Derived.OpenShut
import Derived.Deep.AppendSrc
import Derived.Test.YteabhblbefglpaaDoorQueryMoreM9
import Derived.Test.YteabhblbefglpaaDoorQueryMoreM15
import Derived.IntWalk

namespace Go.Proofs.YteabhblbefglpaaDoor
open Go.RowKit

/-- A slice of numbers that came in: nil, or a row of so many cells, each fitting its kind. -/
def IsRow (k : IntKind) (w : World) (a : Option Addr) (len cap : Nat) (zs : List Int) : Prop :=
  (a = none ∧ len = 0 ∧ cap = 0 ∧ zs = []) ∨
  ∃ x, a = some x ∧ len ≤ cap ∧ cap ≤ maxLen ∧ zs.length = cap ∧ (∀ i, i < zs.length → w.cell? (x.add i) = some (.int k (zs.getD i 0))) ∧ ∀ n ∈ zs, (Lit.int k n).wf = true

theorem spot_none {w : World} {x : Addr} {v : Value} (h : w.cell? (x.add 0) = some v) : x = ⟨x.block, x.off, none⟩ ∧ x.block < w.heap.size := by
  have hb := World.block_lt_of_cell? w _ h
  cases x with
  | mk b o s =>
    cases s with
    | none => exact ⟨rfl, hb⟩
    | some q =>
      simp only [World.cell?, Addr.add] at h
      split at h <;> simp at h

theorem IsRow.bytes {w : World} {a : Option Addr} {len cap : Nat} {zs : List Int} (h : IsRow .u8 w a len cap zs) : ∃ s : ByteArray, s.size = len ∧ BytesSl w (.slice a len cap) s := by
  rcases h with ⟨rfl, rfl, rfl, rfl⟩ | ⟨x, rfl, hl, hm, hz, hcell, hwz⟩
  · exact ⟨ByteArray.empty, rfl, .inl ⟨rfl, none, 0, rfl⟩⟩
  · have hsz : (⟨((zs.take len).map fun n => UInt8.ofNat n.toNat).toArray⟩ : ByteArray).size = len := by
      show (((zs.take len).map fun n => UInt8.ofNat n.toNat).toArray).size = _
      simp; omega
    refine ⟨⟨((zs.take len).map fun n => UInt8.ofNat n.toNat).toArray⟩, hsz, ?_⟩
    by_cases h0 : len = 0
    · exact .inl ⟨hsz.trans h0, some x, cap, by rw [h0]⟩
    · obtain ⟨hx, hb⟩ := spot_none (hcell 0 (by omega))
      refine .inr ⟨x.block, x.off, cap, by rw [hsz, ← hx], by rw [hsz]; exact hl, hm, hb, fun j hj => ?_⟩
      rw [hsz] at hj
      have hc := hcell j (by omega)
      have hadd : x.add j = ⟨x.block, x.off + j, none⟩ := by cases x; cases hx; simp [Addr.add]
      rw [hadd] at hc
      rw [hc]
      have hjz : j < zs.length := by omega
      have hw := hwz zs[j] (List.getElem_mem _)
      simp [Lit.wf, IntKind.min, IntKind.max, IntKind.signed, IntKind.bits] at hw
      simp only [byteAt, List.getD, List.getElem?_map, List.getElem?_take, if_pos hj, List.getElem?_eq_getElem hjz, Option.map_some, Option.getD_some]
      rw [UInt8.toNat_ofNat_of_lt' (by have : zs[j].toNat < 256 := by omega
                                       exact this), Int.toNat_of_nonneg hw.1]

/-- A slice of ints that reads as these numbers. -/
def IntsSl (w : World) (v : Value) (l : List Int) : Prop :=
  (l = [] ∧ ∃ a cap, v = .slice a 0 cap) ∨ ∃ b off cap, v = .slice (some ⟨b, off, none⟩) l.length cap ∧ l.length ≤ cap ∧ cap ≤ maxLen ∧ b < w.heap.size ∧ ∀ j, j < l.length → w.cell? ⟨b, off + j, none⟩ = some (.int .i64 (l.getD j 0))
theorem IntsSl.below {w w' : World} {v : Value} {l : List Int} (h : IntsSl w v l) (hb : Below w.heap.size w w') : IntsSl w' v l := by
  rcases h with h | ⟨b, off, cap, e, h1, h2, h3, h4⟩
  · exact .inl h
  · exact .inr ⟨b, off, cap, e, h1, h2, Nat.lt_of_lt_of_le h3 hb.size, fun j hj => (hb.cell (p := ⟨b, off + j, none⟩) h3).trans (h4 j hj)⟩
theorem IsRow.ints {w : World} {a : Option Addr} {len cap : Nat} {zs : List Int} (h : IsRow .i64 w a len cap zs) : ∃ l : List Int, l.length = len ∧ IntsSl w (.slice a len cap) l ∧ ∀ n ∈ l, (Lit.int .i64 n).wf = true := by
  rcases h with ⟨rfl, rfl, rfl, rfl⟩ | ⟨x, rfl, hl, hm, hz, hcell, hwz⟩
  · exact ⟨[], rfl, .inl ⟨rfl, none, 0, rfl⟩, fun _ h => by cases h⟩
  · have hlen : (zs.take len).length = len := by simp; omega
    refine ⟨zs.take len, hlen, ?_, fun n hn => hwz n (List.mem_of_mem_take hn)⟩
    by_cases h0 : len = 0
    · exact .inl ⟨by rw [h0]; rfl, some x, cap, by rw [h0]⟩
    · obtain ⟨hx, hb⟩ := spot_none (hcell 0 (by omega))
      refine .inr ⟨x.block, x.off, cap, by rw [hlen, ← hx], by rw [hlen]; exact hl, hm, hb, fun j hj => ?_⟩
      rw [hlen] at hj
      have hc := hcell j (by omega)
      have hadd : x.add j = ⟨x.block, x.off + j, none⟩ := by cases x; cases hx; simp [Addr.add]
      rw [hadd] at hc
      rw [hc]
      simp [List.getD, hj]
end Go.Proofs.YteabhblbefglpaaDoor

/- A slice of items that came in. -/
namespace Go.Proofs.YteabhblbefglpaaDoor
open Go.RowKit Go.ChangeShapes Go.WideShapes

def sizedI (l : List It) : Prop := ∀ p ∈ l, p.name.size ≤ maxLen ∧ p.value.size ≤ maxLen
theorem cells_item : Tryd.prog.cellsOf 94 = 3 := by kernel_rfl
theorem cells_str : Tryd.prog.cellsOf 9 = 1 := by kernel_rfl
theorem cells_bool : Tryd.prog.cellsOf 4 = 1 := by kernel_rfl
set_option maxRecDepth 100000 in
theorem open_items {H : Type} {enc : TypeId × Value → H} {W : World} {base : Nat} {spare : Nat → Bool} {held : Bool} {fuel : Nat} {cs : List Value} {x : DataW H × List MemPlace} (h : DataW.trod enc Tryd.prog W base spare held fuel 52 cs = some x) :
    ∃ (a : Option Addr) (l : List It) (cap : Nat), cs = [.slice a l.length cap] ∧ l.length ≤ cap ∧ cap ≤ maxLen ∧ ItemsSl W a l ∧ sizedI l := by
  rcases Go.Deep.open_slice Tryd.underlying52 h with ⟨rfl, _⟩ | ⟨a, len, cap, m, n, D, Pl, rfl, hb, hl, hm, hmm, _, hx⟩
  · exact ⟨none, [], 0, rfl, Nat.le_refl _, Nat.zero_le _, fun i p h => by simp at h, fun p h => by cases h⟩
  have hlm : len ≤ m := by rw [hmm]; split <;> omega
  by_cases hlen0 : len = 0
  · subst hlen0
    exact ⟨some a, [], cap, rfl, hl, hm, fun i p h => by simp at h, fun p h => by cases h⟩
  obtain ⟨hspot, hblk⟩ : a = ⟨a.block, a.off, none⟩ ∧ a.block < W.heap.size := by
    obtain ⟨cs', h1, h2⟩ := hx 0 (by omega)
    rw [cells_item] at h1
    obtain ⟨_, hlen, hcell⟩ := World.cells?_some h1
    have c0 := hcell 0 (by omega)
    rw [Go.Deep.add_add, Nat.zero_mul, Nat.add_zero] at c0
    match cs', hlen with
    | [v0, v1, v2], _ => exact spot_none (c0.trans rfl)
  obtain ⟨ab, ao, asp⟩ := a
  obtain rfl : asp = none := by injection hspot
  dsimp only at hblk
  have each : ∀ i, i < len → ∃ p : It, (∃ b off, (⟨ab, ao, none⟩ : Addr) = ⟨b, off, none⟩ ∧ b < W.heap.size ∧
      W.cell? ⟨b, off + i * 3, none⟩ = some (.string p.name) ∧ W.cell? ⟨b, off + i * 3 + 1, none⟩ = some (.string p.value) ∧ W.cell? ⟨b, off + i * 3 + 2, none⟩ = some (.bool p.has)) ∧ p.name.size ≤ maxLen ∧ p.value.size ≤ maxLen := by
    intro i hi
    obtain ⟨cs', h1, h2⟩ := hx i (by omega)
    rw [cells_item] at h1
    obtain ⟨_, hlen, hcell⟩ := World.cells?_some h1
    obtain ⟨y0, y1, y2, k, _, _, g0, g1, g2⟩ := Go.Deep.trod_struct3 Tryd.underlying94 h2
    match cs', hlen with
    | [v0, v1, v2], _ =>
      simp [cells_str, cells_bool] at g0 g1 g2
      obtain ⟨s0, e0, _, z0⟩ := DataW.trod_string Tryd.underlying9 g0
      obtain ⟨s1, e1, _, z1⟩ := DataW.trod_string Tryd.underlying9 g1
      obtain ⟨b2, e2, _⟩ := DataW.trod_bool Tryd.underlying4 g2
      simp at e0 e1 e2
      subst e0 e1 e2
      have c0 := hcell 0 (by omega)
      have c1 := hcell 1 (by omega)
      have c2 := hcell 2 (by omega)
      rw [Go.Deep.add_add] at c0 c1 c2
      rw [Addr.add_lit] at c0 c1 c2
      refine ⟨⟨s0, s1, b2⟩, ⟨ab, ao, rfl, hblk, ?_, ?_, ?_⟩, z0, z1⟩
      · simpa using c0
      · simpa [Nat.add_assoc] using c1
      · simpa [Nat.add_assoc] using c2
  haveI : Inhabited It := ⟨⟨ByteArray.empty, ByteArray.empty, false⟩⟩
  obtain ⟨f, hf⟩ := Go.Deep.choose_lt each
  have hlen : ((List.range len).map f).length = len := by simp
  refine ⟨some ⟨ab, ao, none⟩, (List.range len).map f, cap, by rw [hlen], by rw [hlen]; exact hl, hm, fun i p hp => ?_, fun p hp => ?_⟩
  · have hi : i < len := by have := (List.getElem?_eq_some_iff.1 hp).1; simpa using this
    have : p = f i := by simpa [hi] using hp.symm
    subst this
    obtain ⟨⟨b, off, e, h1, h2, h3, h4⟩, _⟩ := hf i hi
    exact ⟨b, off, congrArg some e, h1, h2, h3, h4⟩
  · obtain ⟨i, hi, rfl⟩ := List.mem_map.1 hp
    exact (hf i (by simpa using hi)).2
end Go.Proofs.YteabhblbefglpaaDoor

/- append(x, y...) of items. -/
namespace Go.Proofs.YteabhblbefglpaaDoor
open Go.RowKit

theorem ItemsSl.cellsAt {w : World} {a : Option Addr} {l : List It} (h : ItemsSl w a l) (hne : l ≠ []) : ∃ b off, a = some ⟨b, off, none⟩ ∧ b < w.heap.size ∧ ∀ j u, (itemsV l)[j]? = some u → w.cell? ((⟨b, off, none⟩ : Addr).add j) = some u := by
  obtain ⟨x, l', rfl⟩ := List.exists_cons_of_ne_nil hne
  obtain ⟨b, off, rfl, hb, _⟩ := h 0 x rfl
  refine ⟨b, off, rfl, hb, fun j u hj => ?_⟩
  have hlt := (List.getElem?_eq_some_iff.1 hj).1
  rw [itemsV_len] at hlt
  obtain ⟨p, hp⟩ : ∃ p, (x :: l')[j / 3]? = some p := ⟨_, List.getElem?_eq_getElem (by omega)⟩
  obtain ⟨b', off', e, _, h0, h1, h2⟩ := h (j / 3) p hp
  cases e
  have hm := itemsV_at hp (j % 3) (by omega)
  rw [show j / 3 * 3 + j % 3 = j by omega, hj] at hm
  rw [Addr.add_lit]
  have h3 : j % 3 = 0 ∨ j % 3 = 1 ∨ j % 3 = 2 := by omega
  rcases h3 with e | e | e
  · rw [e] at hm; rw [show off + j = off + j / 3 * 3 by omega, h0]; exact hm.symm
  · rw [e] at hm; rw [show off + j = off + j / 3 * 3 + 1 by omega, h1]; exact hm.symm
  · rw [e] at hm; rw [show off + j = off + j / 3 * 3 + 2 by omega, h2]; exact hm.symm
theorem itemsV_one (l : List It) : ∀ u ∈ itemsV l, u.oneCell' = true := by
  intro u hu
  unfold itemsV at hu
  obtain ⟨p, _, hp⟩ := List.mem_flatMap.1 hu
  exact itemC_one p u hp
theorem OwnI.shape {w : World} {base : Nat} {v : Value} {l : List It} (h : OwnI w base v l) : (l = [] ∧ v = .slice none 0 0) ∨ ∃ g cap, v = .slice (some ⟨g, 0, none⟩) l.length cap ∧ l.length ≤ cap := by
  unfold OwnI at h
  rcases h.2 with ⟨e0, e1⟩ | ⟨g, cap, cur, e0, hg, hh, h1, h2, _⟩
  · exact .inl ⟨List.eq_nil_of_length_eq_zero e1, e0⟩
  · exact .inr ⟨g, cap, e0, h1⟩
theorem wpList_app_items {w : World} {ops : Array Oper} {rest : List Oper} {o : Oper} {a : Act} {Q : Exit → Act → World → Prop} (hgd : o.guard = none) (s x : Operand) (ho : o.op = .call { callee := .builtin .append, args := #[s, x], argTypes := #[52, 52] })
    (base : Nat) (v : Value) (l : List It) (hs : a.eval s = v) (hown : OwnI w base v l) (pa : Option Addr) (c : Nat) (ys : List It) (hx : a.eval x = .slice pa ys.length c) (hy : ItemsSl w pa ys)
    (hl : l.length + ys.length ≤ 1073741824) (hbase : base ≤ w.heap.size)
    (h : ∀ v' w', OwnI w' base v' (l ++ ys) → w.grownBy w' v.ownBlock → wpList Tryd.prog ops Q rest (a.put o.dst v') w') : wpList Tryd.prog ops Q (o :: rest) a w := by
  obtain ⟨i, hi, hz, hsize, hby⟩ := info_parts info_item
  by_cases hne : ys = []
  · subst hne
    have hsrc : Src Tryd.prog i.size 52 (.slice pa 0 c) 0 [] w := by
      cases pa with
      | none => exact Src.ofNil w Tryd.underlying52 c
      | some ad => exact Src.ofSlice w Tryd.underlying52 ad 0 c [] (by simp) (by simp) (by simp)
    refine wpList_plain hgd fun K hK => ?_
    have hrun : (Builtin.append_ #[52, 52] o.type #[v, .slice pa 0 c]).run Tryd.prog w = .ok v w := by
      rcases hown.shape with ⟨_, rfl⟩ | ⟨g, c, rfl, h1⟩
      · exact run_append_nothing w _ _ _ 94 i Tryd.underlying52 hi none 0 0 (Nat.le_refl _) _ hsrc
      · exact run_append_nothing w _ _ _ 94 i Tryd.underlying52 hi _ _ _ h1 _ hsrc
    have hx0 : a.eval x = .slice pa 0 c := hx
    unfold Oper.wp
    simp [execOp, ho, resolve, invoke, builtin, hs, hx0, hrun, Result.andThen]
    refine hK _ _ (h v w (by rw [List.append_nil]; exact hown) (below_grownBy (Below.refl _ _) _))
  · obtain ⟨b, off, rfl, hb, hcells⟩ := hy.cellsAt hne
    refine wpList_append_own _ hgd s x 52 ho base 94 i _ 3 40 Tryd.underlying52 hi hz hsize hby rfl (by decide) v _ _ hs hown _ ys.length c (itemsV ys) hx (itemsV_len ys) hcells (itemsV_one ys) (by unfold maxLen; omega) (by omega) hbase ?_
    intro v' w' h1 h2 _
    refine h v' w' ?_ h2
    unfold OwnI
    rw [List.length_append, itemsV_app]
    exact h1
end Go.Proofs.YteabhblbefglpaaDoor

/- An operation whose guard says yes is as one without a guard. -/
namespace Go.Proofs.YteabhblbefglpaaDoor
open Go.RowKit

theorem wpList_free {P : Program} {ops : Array Oper} {Q : Exit → Act → World → Prop} {a : Act} {w : World} {rest : List Oper} {d : Option Tmp} {op : Op} {ty : TypeId} {pos : String} {after : Array Edge} {g : Option (Nat × Bool)}
    (hw : Region.wanted ⟨d, op, ty, pos, after, g⟩ (yielded ops a.tmps) = true) (h : wpList P ops Q (⟨d, op, ty, pos, after, none⟩ :: rest) a w) : wpList P ops Q (⟨d, op, ty, pos, after, g⟩ :: rest) a w := by
  unfold wpList at h ⊢
  rw [if_pos hw]
  rw [if_pos (by simp [Region.wanted])] at h
  exact h
end Go.Proofs.YteabhblbefglpaaDoor

/- The walk of QueryMore. -/
namespace Go.Proofs.YteabhblbefglpaaDoor
open Go.RowKit

theorem wrap64_in (x : Int) (h1 : -9223372036854775808 ≤ x) (h2 : x ≤ 9223372036854775807) : wrap64 x = x := by
  unfold wrap64; omega
theorem ItemsSl.drop {w : World} {b off : Nat} {l : List It} (h : ItemsSl w (some ⟨b, off, none⟩) l) (n : Nat) : ItemsSl w (some ⟨b, off + n * 3, none⟩) (l.drop n) := by
  intro i p hp
  rw [List.getElem?_drop] at hp
  obtain ⟨b', off', e, h0, h1, h2, h3⟩ := h _ p hp
  cases e
  refine ⟨b, off + n * 3, rfl, h0, ?_, ?_, ?_⟩
  · rw [show off + n * 3 + i * 3 = off + (n + i) * 3 by omega]; exact h1
  · rw [show off + n * 3 + i * 3 + 1 = off + (n + i) * 3 + 1 by omega]; exact h2
  · rw [show off + n * 3 + i * 3 + 2 = off + (n + i) * 3 + 2 by omega]; exact h3
theorem OwnI.lit01 (w : World) (base : Nat) (hb : base ≤ w.heap.size) : OwnI (w.alloc (.cells #[] 94)) base (.slice (some ⟨w.heap.size, 0, none⟩) 0 0) [] :=
  World.ownsRow_lit w #[] 0 hb (Nat.zero_le _) rfl
def QMorePost (w : World) (e : Ending) (w' : World) : Prop := e = .returned (.bool true) ∧ Below w.heap.size w w'
set_option maxHeartbeats 6400000 in
set_option maxRecDepth 100000 in
theorem qmore_walk (pa pb pp : Option Addr) (ca cb cp : Nat) (la lb lp : List It) (f : Bool) (w : World) (hU : Utf8Laid w) (hg : Handle w) (ha : ItemsSl w pa la) (hb : ItemsSl w pb lb) (hp : ItemsSl w pp lp)
    (hca : la.length ≤ ca) (hcam : ca ≤ maxLen) (hcb : lb.length ≤ cb) (hcbm : cb ≤ maxLen) (hcp : lp.length ≤ cp) (hcpm : cp ≤ maxLen) (za : sizedI la) (zb : sizedI lb) (zp : sizedI lp) :
    Calls Tryd.prog 11 #[.slice pa la.length ca, .slice pb lb.length cb, .slice pp lp.length cp, .bool f] w (QMorePost w) := by
  have g1 := Lib.hid (fun W hb => query_great pa ca la W (ha.below (w' := W) hb) za (by omega))
  have g2 := Lib.hid (fun W hb' => query_great pb cb lb W (hb.below (w' := W) hb') zb (by omega))
  have g3 := Lib.hid (fun W hb' => query_great pp cp lp W (hp.below (w' := W) hb') zp (by omega))
  unfold maxLen at hcam hcbm hcpm
  have hga := Lib.hid (fun h => great_no (l := la) h)
  have hgb := Lib.hid (fun h => great_no (l := lb) h)
  have hgp := Lib.hid (fun h => great_no (l := lp) h)
  generalize greatI la = ga at *
  generalize greatI lb = gb at *
  generalize greatI lp = gp at *
  have HA := Lib.hid ha
  have HB := Lib.hid hb
  have HP := Lib.hid hp
  have HU := Lib.hid hU
  clear ha hb hp hU
  cases ga with
  | true =>
    go_enter Tryd.func11, Tryd.ntmps11
    go_wp2_with fail
    refine (speaks16 _ hg HU.out).mono ?_
    rintro e w1 ⟨rfl, hb1⟩
    go_wp2_with fail
    refine (g1.out _ hb1).mono ?_
    rintro e w2 ⟨rfl, hb2⟩
    have hb12 := Bt hb1 hb2
    go_wp2_with fail
    go_ret
    exact ⟨rfl, hb12⟩
  | false =>
  cases gb with
  | true =>
    go_enter Tryd.func11, Tryd.ntmps11
    go_wp2_with fail
    refine (speaks16 _ hg HU.out).mono ?_
    rintro e w1 ⟨rfl, hb1⟩
    go_wp2_with fail
    refine (g1.out _ hb1).mono ?_
    rintro e w2 ⟨rfl, hb2⟩
    have hb12 := Bt hb1 hb2
    go_wp2_with fail
    refine (g2.out _ hb12).mono ?_
    rintro e w3 ⟨rfl, hb3⟩
    have hb13 := Bt hb12 hb3
    go_wp2_with fail
    go_ret
    exact ⟨rfl, hb13⟩
  | false =>
  cases gp with
  | true =>
    go_enter Tryd.func11, Tryd.ntmps11
    go_wp2_with fail
    refine (speaks16 _ hg HU.out).mono ?_
    rintro e w1 ⟨rfl, hb1⟩
    go_wp2_with fail
    refine (g1.out _ hb1).mono ?_
    rintro e w2 ⟨rfl, hb2⟩
    have hb12 := Bt hb1 hb2
    go_wp2_with fail
    refine (g2.out _ hb12).mono ?_
    rintro e w3 ⟨rfl, hb3⟩
    have hb13 := Bt hb12 hb3
    go_wp2_with fail
    refine (g3.out _ hb13).mono ?_
    rintro e w4 ⟨rfl, hb4⟩
    have hb14 := Bt hb13 hb4
    go_wp2_with fail
    go_ret
    exact ⟨rfl, hb14⟩
  | false =>
  obtain ⟨la3, laz⟩ := hga.out rfl
  obtain ⟨lb3, lbz⟩ := hgb.out rfl
  obtain ⟨lp3, lpz⟩ := hgp.out rfl
  clear hga hgb hgp
  obtain ⟨al, hal⟩ : ∃ al, al = la ++ lb := ⟨_, rfl⟩
  obtain ⟨bk, hbk⟩ : ∃ bk, bk = lb ++ la := ⟨_, rfl⟩
  have hallen : al.length ≤ 600 := by rw [hal, List.length_append]; omega
  have hbklen : bk.length ≤ 600 := by rw [hbk, List.length_append]; omega
  have haz : ∀ x ∈ la, x.value.size ≤ 16777216 := fun x hx => by have := (laz x hx).2; omega
  have hbz : ∀ x ∈ lb, x.value.size ≤ 16777216 := fun x hx => by have := (lbz x hx).2; omega
  have hpz : ∀ x ∈ lp, x.value.size ≤ 16777216 := fun x hx => by have := (lpz x hx).2; omega
  have halz : ∀ x ∈ al, x.value.size ≤ 16777216 := fun x hx => by
    rw [hal] at hx
    rcases List.mem_append.1 hx with h | h
    · exact haz x h
    · exact hbz x h
  have hbkz : ∀ x ∈ bk, x.value.size ≤ 16777216 := fun x hx => by
    rw [hbk] at hx
    rcases List.mem_append.1 hx with h | h
    · exact hbz x h
    · exact haz x h
  have hcomm : wantB bk lp f = wantB al lp f := by rw [hal, hbk]; exact want_comm _ _ _ _
  have hmore : wantB la lp f = true → wantB al lp f = true := fun h => by rw [hal]; exact want_more h lb
  have htake : ∀ i, wantB la lp f = true → wantB la (lp.take i) f = true := fun i h => want_take h i
  have hdrop : ∀ i, wantB la lp f = true → wantB al (lp.drop i) f = true := fun i h => by rw [hal]; exact want_more (want_drop h i) lb
  have AL := Lib.hid hal
  have BK := Lib.hid hbk
  have COMM := Lib.hid hcomm
  have MORE := Lib.hid hmore
  have TAKE := Lib.hid htake
  have DROP := Lib.hid hdrop
  have HAZ := Lib.hid haz
  have HPZ := Lib.hid hpz
  have HALZ := Lib.hid halz
  have HBKZ := Lib.hid hbkz
  clear hal hbk hcomm hmore htake hdrop haz hbz hpz halz hbkz laz lbz lpz
  by_cases hprod : 400 < (la.length + lb.length) * lp.length
  · have hprodI : ((la.length : Int) + (lb.length : Int)) * (lp.length : Int) > 400 := by
      have : ((400 : Nat) : Int) < (((la.length + lb.length) * lp.length : Nat) : Int) := by exact_mod_cast hprod
      simpa using this
    have hw : ((la.length : Int) + (lb.length : Int)) * (lp.length : Int) ≤ 180000 := by
      have h1 : (la.length + lb.length) * lp.length ≤ 600 * 300 := Nat.mul_le_mul (by omega) lp3
      have : (((la.length + lb.length) * lp.length : Nat) : Int) ≤ ((600 * 300 : Nat) : Int) := by exact_mod_cast h1
      simpa using this
    have hwm : 400 < wrap64 (((la.length : Int) + (lb.length : Int)) * (lp.length : Int)) := by
      rw [wrap64_in _ (by omega) (by omega)]; exact hprodI
    clear hprod hw hprodI
    go_enter Tryd.func11, Tryd.ntmps11
    go_wp2_with fail
    refine (speaks16 _ hg HU.out).mono ?_
    rintro e w1 ⟨rfl, hb1⟩
    go_wp2_with fail
    refine (g1.out _ hb1).mono ?_
    rintro e w2 ⟨rfl, hb2⟩
    have hb12 := Bt hb1 hb2
    go_wp2_with fail
    refine (g2.out _ hb12).mono ?_
    rintro e w3 ⟨rfl, hb3⟩
    have hb13 := Bt hb12 hb3
    go_wp2_with fail
    refine (g3.out _ hb13).mono ?_
    rintro e w4 ⟨rfl, hb4⟩
    have hb14 := Bt hb13 hb4
    go_wp2_with fail
    go_ret
    exact ⟨rfl, hb14⟩
  · have hprodI : ¬ ((la.length : Int) + (lb.length : Int)) * (lp.length : Int) > 400 := by
      intro h
      apply hprod
      have : ((400 : Nat) : Int) < (((la.length + lb.length) * lp.length : Nat) : Int) := by simpa using h
      exact_mod_cast this
    have hnn : 0 ≤ ((la.length : Int) + (lb.length : Int)) * (lp.length : Int) := by
      have : (0 : Int) ≤ (((la.length + lb.length) * lp.length : Nat) : Int) := Int.natCast_nonneg _
      simpa using this
    have hwm : ¬ 400 < wrap64 (((la.length : Int) + (lb.length : Int)) * (lp.length : Int)) := by
      rw [wrap64_in _ (by omega) (by omega)]; exact hprodI
    clear hprod hnn hprodI
    go_enter Tryd.func11, Tryd.ntmps11
    go_wp2_with fail
    refine (speaks16 _ hg HU.out).mono ?_
    rintro e w1 ⟨rfl, hb1⟩
    go_wp2_with fail
    refine (g1.out _ hb1).mono ?_
    rintro e w2 ⟨rfl, hb2⟩
    have hb12 := Bt hb1 hb2
    clear hb1 hb2
    go_wp2_with fail
    refine (g2.out _ hb12).mono ?_
    rintro e w3 ⟨rfl, hb3⟩
    have hb13 := Bt hb12 hb3
    clear hb12 hb3
    go_wp2_with fail
    refine (g3.out _ hb13).mono ?_
    rintro e w4 ⟨rfl, hb4⟩
    have hb14 := Bt hb13 hb4
    clear hb13 hb4 g1 g2 g3
    have hst5 := (Below.refl w4.heap.size w4).alloc (Nat.le_refl _) (.cells #[] 94)
    have O5 := Lib.hid (OwnI.lit01 w4 w4.heap.size (Nat.le_refl _))
    have I5 := Lib.hid (HA.out.below (Bt hb14 hst5))
    go_wp2_with (at_builtin; refine wpList_app_items rfl _ _ rfl w4.heap.size _ _ rfl O5.out pa ca la rfl I5.out (by first | omega | (simp; omega)) (by simp) ?_)
    intro v6 w6 hown6 hg6
    have hst6 := O5.out.under hst5 (Nat.le_refl _) hg6
    have I6 := Lib.hid (HB.out.below (Bt hb14 hst6))
    have O6 := Lib.hid hown6
    have hs6 := hst6.size
    clear hg6 I5 O5 hst5 hown6 hwm
    go_wp2_with (at_builtin; refine wpList_app_items rfl _ _ rfl w4.heap.size _ _ rfl O6.out pb cb lb rfl I6.out (by first | omega | (simp; omega)) hs6 ?_)
    intro v7 w7 hown7 hg7
    rw [← AL.out] at hown7
    have hst7 := O6.out.under hst6 (Nat.le_refl _) hg7
    have hb17 := Bt hb14 hst7
    obtain ⟨qa, qc, rfl, hqc, hqcm, hsal⟩ := hown7.sl
    have HAL7 := Lib.hid hsal.items
    clear hg7 I6 O6 hst6 hs6 hown7 hst7 hb14 hsal
    have hst8 := (Below.refl w7.heap.size w7).alloc (Nat.le_refl _) (.cells #[] 94)
    have O8 := Lib.hid (OwnI.lit01 w7 w7.heap.size (Nat.le_refl _))
    have I8 := Lib.hid (HB.out.below (Bt hb17 hst8))
    go_wp2_with (at_builtin; refine wpList_app_items rfl _ _ rfl w7.heap.size _ _ rfl O8.out pb cb lb rfl I8.out (by first | omega | (simp; omega)) (by simp) ?_)
    intro v9 w9 hown9 hg9
    have hst9 := O8.out.under hst8 (Nat.le_refl _) hg9
    have I9 := Lib.hid (HA.out.below (Bt hb17 hst9))
    have O9 := Lib.hid hown9
    have hs9 := hst9.size
    clear hg9 I8 O8 hst8 hown9
    go_wp2_with (at_builtin; refine wpList_app_items rfl _ _ rfl w7.heap.size _ _ rfl O9.out pa ca la rfl I9.out (by first | omega | (simp; omega)) hs9 ?_)
    intro v10 w10 hown10 hg10
    rw [← BK.out] at hown10
    have hst10 := O9.out.under hst9 (Nat.le_refl _) hg10
    have hb10 := Bt hb17 hst10
    obtain ⟨ra, rc, rfl, hrc, hrcm, hsbk⟩ := hown10.sl
    have HBK10 := Lib.hid hsbk.items
    have HAL10 := Lib.hid (HAL7.out.below hst10)
    clear hg10 I9 O9 hst9 hs9 hown10 hst10 hb17 hsbk HAL7
    have HA10 := Lib.hid (HA.out.below hb10)
    have HP10 := Lib.hid (HP.out.below hb10)
    have HU10 := Lib.hid (HU.out.below hb10)
    have cAll := Lib.hid (fun W (hb : Below w10.heap.size w10 W) => query_Wanted qa pp qc cp al lp f W (HAL10.out.below hb) (HP10.out.below hb) (HU10.out.below hb) (by omega) (by omega) HALZ.out HPZ.out)
    have cBack := Lib.hid (fun W (hb : Below w10.heap.size w10 W) => query_Wanted ra pp rc cp bk lp f W (HBK10.out.below hb) (HP10.out.below hb) (HU10.out.below hb) (by omega) (by omega) HBKZ.out HPZ.out)
    have cNil' : ∀ W (hb : Below w10.heap.size w10 W), Calls Tryd.prog 38 #[.slice pa la.length ca, .slice none 0 0, .bool f] W fun e w' => e = .returned (.bool true) ∧ Below W.heap.size W w' := fun W hb =>
      query_Wanted pa none ca 0 la [] f W (HA10.out.below hb) (fun i p h => by simp at h) (HU10.out.below hb) (by omega) (by simp) HAZ.out (fun x h => by cases h)
    have cNil := Lib.hid cNil'
    have cList := Lib.hid (fun W (hb : Below w10.heap.size w10 W) => query_Wanted pa pp ca cp la lp f W (HA10.out.below hb) (HP10.out.below hb) (HU10.out.below hb) (by omega) (by omega) HAZ.out HPZ.out)
    clear cNil'
    rw [COMM.out] at cBack
    generalize wantB al lp f = r at *
    generalize ht : wantB la lp f = t at *
    have HT := Lib.hid ht
    clear ht COMM
    have hbA := Below.refl w10.heap.size w10
    cases t with
    | false =>
      cases r
      all_goals
        go_wp2_with fail
        refine (cAll.out _ hbA).mono ?_
        rintro e w11 ⟨rfl, hb11⟩
        go_wp2_with fail
        refine (cBack.out _ hb11).mono ?_
        rintro e w12 ⟨rfl, hb12⟩
        have hb1112 := Bt hb11 hb12
        go_wp2_with fail
        refine (cNil.out _ hb1112).mono ?_
        rintro e w13 ⟨rfl, hb13⟩
        have hb1113 := Bt hb1112 hb13
        go_wp2_with fail
        refine (cList.out _ hb1113).mono ?_
        rintro e w14 ⟨rfl, hb14⟩
        have hbE := Bt hb10 (Bt hb1113 hb14)
        go_wp2_with fail
        go_ret
        exact ⟨rfl, hbE⟩
    | true =>
      obtain rfl := MORE.out rfl
      go_wp2_with fail
      refine (cAll.out _ hbA).mono ?_
      rintro e w11 ⟨rfl, hb11⟩
      go_wp2_with fail
      refine (cBack.out _ hb11).mono ?_
      rintro e w12 ⟨rfl, hb12⟩
      have hb1112 := Bt hb11 hb12
      go_wp2_with fail
      refine (cNil.out _ hb1112).mono ?_
      rintro e w13 ⟨rfl, hb13⟩
      have hb1113 := Bt hb1112 hb13
      go_wp2_with fail
      refine (cList.out _ hb1113).mono ?_
      rintro e w14 ⟨rfl, hb14⟩
      have hb1114 := Bt hb1113 hb14
      clear hb11 hb12 hb1112 hb13 hb1113 hb14 hbA cBack cNil cList MORE
      go_wp2_with fail
      go_loopw [67] (fun x wr => ∃ i : Nat, i ≤ lp.length ∧ x = .int .i64 i ∧ Below w10.heap.size w10 wr) (fun x _ => lp.length - (intOf x).toNat)
      case atStart => exact ⟨0, Nat.zero_le _, rfl, hb1114⟩
      case round =>
        obtain ⟨i, hil, rfl, hbr⟩ := hrel
        by_cases hlt : i < lp.length
        · obtain ⟨p, hx⟩ : ∃ p, lp[i]? = some p := ⟨_, List.getElem?_eq_getElem hlt⟩
          obtain ⟨b, off, rfl, hb, _⟩ := HP10.out i p hx
          have hiI : (i : Int) < (lp.length : Int) := by omega
          have hne : ¬ cp = i := by omega
          have hl1 : (lp.take i).length = i := by rw [List.length_take]; omega
          have hl2 : (lp.drop i).length = lp.length - i := List.length_drop
          have cT' : ∀ W (hb : Below w10.heap.size w10 W), Calls Tryd.prog 38 #[.slice pa la.length ca, .slice (some ⟨b, off, none⟩) i cp, .bool f] W fun e w' => e = .returned (.bool true) ∧ Below W.heap.size W w' := fun W hb => by
            have := query_Wanted pa (some ⟨b, off, none⟩) ca cp la (lp.take i) f W (HA10.out.below hb) ((HP10.out.below hb).take i) (HU10.out.below hb) (by omega) (by omega) HAZ.out (fun x hx => HPZ.out x (List.mem_of_mem_take hx))
            rw [hl1, TAKE.out i (by first | exact HT.out | trivial)] at this
            exact this
          have cD' : ∀ W (hb : Below w10.heap.size w10 W), Calls Tryd.prog 38 #[.slice qa al.length qc, .slice (some ⟨b, off + i * 3, none⟩) (lp.length - i) (cp - i), .bool f] W fun e w' => e = .returned (.bool true) ∧ Below W.heap.size W w' := fun W hb => by
            have := query_Wanted qa (some ⟨b, off + i * 3, none⟩) qc (cp - i) al (lp.drop i) f W (HAL10.out.below hb) ((HP10.out.below hb).drop i) (HU10.out.below hb) (by omega) (by omega) HALZ.out (fun x hx => HPZ.out x (List.mem_of_mem_drop hx))
            rw [hl2, DROP.out i (by first | exact HT.out | trivial)] at this
            exact this
          have cT := Lib.hid cT'
          have cD := Lib.hid cD'
          clear cT' cD' hl1 hl2 hx
          go_wp2_with fail
          refine (cT.out _ hbr).mono ?_
          rintro e w15 ⟨rfl, hb15⟩
          have hb25 := Bt hbr hb15
          go_wp2_with fail
          refine (cD.out _ hb25).mono ?_
          rintro e w16 ⟨rfl, hb16⟩
          have hb26 := Bt hb25 hb16
          go_wp2_with fail
          go_roundw
          case rel => exact ⟨i + 1, by omega, by go_num, hb26⟩
          case measure => simp [intOf]; omega
        · obtain rfl : i = lp.length := by omega
          go_wp2_with fail
          refine (cAll.out _ hbr).mono ?_
          rintro e w15 ⟨rfl, hb15⟩
          have hbE := Bt hb10 (Bt hbr hb15)
          go_wp2_with fail
          go_ret
          exact ⟨rfl, hbE⟩
theorem walkQueryMore (pa : Option Addr) (la : List It) (ca : Nat) (pb : Option Addr) (lb : List It) (cb : Nat) (pp : Option Addr) (lp : List It) (cp : Nat) (f : Bool) (w : World) (hg : Handle w) (hU : Utf8Laid w)
    (hca : la.length ≤ ca) (hcam : ca ≤ maxLen) (ha : ItemsSl w pa la) (za : sizedI la) (hcb : lb.length ≤ cb) (hcbm : cb ≤ maxLen) (hb : ItemsSl w pb lb) (zb : sizedI lb) (hcp : lp.length ≤ cp) (hcpm : cp ≤ maxLen) (hp : ItemsSl w pp lp) (zp : sizedI lp) :
    Calls Tryd.prog 11 #[.slice pa la.length ca, .slice pb lb.length cb, .slice pp lp.length cp, .bool f] w fun e w' => e = .returned (.bool true) ∧ Below w.heap.size w w' :=
  qmore_walk pa pb pp ca cb cp la lb lp f w hU hg ha hb hp hca hcam hcb hcbm hcp hcpm za zb zp
end Go.Proofs.YteabhblbefglpaaDoor
