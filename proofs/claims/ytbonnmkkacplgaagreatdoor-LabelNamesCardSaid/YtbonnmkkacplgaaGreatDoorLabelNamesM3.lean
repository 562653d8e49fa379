/- slices.Insert of one number into a row of the call's own. -/
import Derived.Test.YtbonnmkkacplgaaGreatDoorLabelNamesM1
import Derived.Test.YtbonnmkkacplgaaGreatDoorShelf
import Derived.Test.YtbonnmkkacplgaaGreatDoorLabelNamesM2
import Derived.Laws.IdiomCopy
import Derived.Shelf.Spec.SlicesInsertGrow
import Derived.Lib.DecodeNEq
import Derived.Shelf.Unicode.DecodeSlow

namespace Go.Proofs.YtbonnmkkacplgaaGreatDoor
open Go.RowKit

theorem heap_setCells (b : Nat) : ∀ (vs : List Value) (o : Nat) (w : World) (cur : Array Value) (e : TypeId), w.heap[b]? = some (.cells cur e (0, 0)) → o + vs.length ≤ cur.size →
    ∃ cur' : Array Value, (w.setCells b o vs).heap[b]? = some (.cells cur' e (0, 0)) ∧ cur'.size = cur.size ∧ ∀ j, cur'[j]? = if o ≤ j ∧ j < o + vs.length then vs[j - o]? else cur[j]? := by
  intro vs
  induction vs with
  | nil => intro o w cur e h _; exact ⟨cur, h, rfl, fun j => by rw [if_neg (by simp only [List.length_nil]; omega)]⟩
  | cons v vs ih =>
    intro o w cur e h hl
    simp only [List.length_cons] at hl
    have h1 : (w.setCell ⟨b, o, none⟩ v).heap[b]? = some (.cells (cur.setIfInBounds o v) e (0, 0)) := by simp [World.setCell, Array.getElem?_modify, h]
    obtain ⟨cur', h2, h3, h4⟩ := ih (o + 1) _ _ e h1 (by simp; omega)
    refine ⟨cur', h2, by rw [h3]; simp, fun j => ?_⟩
    rw [h4 j]
    simp only [List.length_cons]
    by_cases a : o + 1 ≤ j ∧ j < o + 1 + vs.length
    · rw [if_pos a, if_pos (by omega)]
      obtain ⟨k, rfl⟩ : ∃ k, j = o + 1 + k := ⟨j - (o + 1), by omega⟩
      rw [show o + 1 + k - (o + 1) = k by omega, show o + 1 + k - o = k + 1 by omega]
      rfl
    · rw [if_neg a, Array.getElem?_setIfInBounds]
      by_cases c : o = j
      · subst c
        rw [if_pos rfl, if_pos (by omega), if_pos (by omega), Nat.sub_self]
        rfl
      · rw [if_neg c, if_neg (by omega)]
theorem setCells_grownBy (b : Nat) : ∀ (vs : List Value) (o : Nat) (w : World), w.grownBy (w.setCells b o vs) (some b) := by
  intro vs
  induction vs with
  | nil => intro o w; exact ⟨rfl, rfl, rfl, Nat.le_refl _, fun _ _ _ => rfl⟩
  | cons v vs ih =>
    intro o w
    have h := ih (o + 1) (w.setCell ⟨b, o, none⟩ v)
    refine ⟨h.os, h.tape, h.output, by have := h.size; rw [show (w.setCell ⟨b, o, none⟩ v).heap.size = w.heap.size by simp [World.setCell]] at this; exact this, fun k hk hne => ?_⟩
    have h1 := h.block k (by simpa [World.setCell] using hk) hne
    exact h1.trans (Below.heap_setCell w _ _ k (fun e => hne (by rw [e])))
theorem take_of (cur : Array Value) (xs : List Value) (h : xs.length ≤ cur.size) (hj : ∀ j, j < xs.length → cur[j]? = xs[j]?) : cur.toList.take xs.length = xs := by
  apply List.ext_getElem?
  intro j
  rw [List.getElem?_take]
  by_cases a : j < xs.length
  · rw [if_pos a, ← hj j a]; simp
  · rw [if_neg a, List.getElem?_eq_none (by omega)]
/-- A list with one more at a place. -/
def insL (l : List Nat) (i x : Nat) : List Nat := l.take i ++ x :: l.drop i
theorem insL_len (l : List Nat) (i x : Nat) (h : i ≤ l.length) : (insL l i x).length = l.length + 1 := by unfold insL; simp; omega
theorem insL_at (l : List Nat) (i x j : Nat) (h : i ≤ l.length) : (insL l i x)[j]? = if j < i then l[j]? else if j = i then some x else l[j - 1]? := by
  unfold insL
  by_cases a : j < i
  · rw [if_pos a, List.getElem?_append_left (by simp; omega), List.getElem?_take, if_pos a]
  · rw [if_neg a, List.getElem?_append_right (by simp; omega)]
    have hl : (l.take i).length = i := by simp; omega
    rw [hl]
    by_cases c : j = i
    · subst c; rw [if_pos rfl, Nat.sub_self]; rfl
    · rw [if_neg c]
      obtain ⟨k, rfl⟩ : ∃ k, j = i + 1 + k := ⟨j - i - 1, by omega⟩
      rw [show i + 1 + k - i = k + 1 by omega, List.getElem?_cons_succ, List.getElem?_drop]
      congr 1
      omega
def OwnN (w : World) (base : Nat) (v : Value) (l : List Nat) : Prop := w.ownsRow base 3 1 v l.length (l.map intV)
theorem intV_one (l : List Nat) : ∀ v ∈ l.map intV, v.oneCell' = true := by
  intro v hv
  obtain ⟨n, _, rfl⟩ := List.mem_map.1 hv
  rfl
theorem own_of {w : World} {base g cap : Nat} {cur : Array Value} {l : List Nat} (hb : base ≤ g) (hh : w.heap[g]? = some (.cells cur 3 (0, 0))) (h1 : l.length ≤ cap) (h2 : cap ≤ maxLen) (h3 : cur.size = cap) (hj : ∀ j, j < l.length → cur[j]? = (l.map intV)[j]?) :
    OwnN w base (.slice (some ⟨g, 0, none⟩) l.length cap) l :=
  ⟨by simp, .inr ⟨g, cap, cur, rfl, hb, hh, h1, h2, by omega, by
    have := take_of cur (l.map intV) (by simp; omega) (by simpa using hj)
    rw [List.length_map] at this
    simpa using this⟩⟩
theorem new_own {w : World} {base G : Nat} {l : List Nat} {xs : List Value} (hbase : base ≤ w.heap.size) (hx : xs = l.map intV) (h1 : l.length ≤ G) (h2 : G ≤ maxLen) :
    OwnN (w.drew.alloc (.cells (xs.toArray ++ Builtin.zeroCells (Value.int .i64 0).cells (G - l.length)) 3)) base (.slice (some ⟨w.heap.size, 0, none⟩) l.length G) l := by
  subst hx
  have hz : (Builtin.zeroCells (Value.int .i64 0).cells (G - l.length)).size = G - l.length := by
    rw [size_zeroCells]; show (G - l.length) * 1 = _; omega
  refine own_of hbase (heap_alloc_new w.drew _) h1 h2 (by rw [Array.size_append, hz]; simp; omega) fun j hj => ?_
  rw [Array.getElem?_append_left (by simpa using hj)]
  simp
/-- What a call that puts a number into a row leaves. -/
def InsPost (base : Nat) (v : Value) (l : List Nat) (i x : Nat) (w : World) (e : Ending) (w' : World) : Prop := ∃ v', e = .returned v' ∧ OwnN w' base v' (insL l i x) ∧ w.grownBy w' v.ownBlock
set_option maxRecDepth 100000 in
theorem ints_Insert (base : Nat) (v : Value) (l : List Nat) (i x vb : Nat) (w : World) (hown : OwnN w base v l) (hi : i ≤ l.length) (hl : l.length ≤ 1000000) (hbase : base ≤ w.heap.size) (hvb : w.heap[vb]? = some (.cells #[intV x] 3 (0, 0))) (hne : v.ownBlock ≠ some vb) :
    Calls Tryz.prog 104 #[v, .int .i64 (i : Int), .slice (some ⟨vb, 0, none⟩) 1 1] w (InsPost base v l i x w) := by
  have hvs : ∀ j u, [intV x][j]? = some u → w.cell? ⟨vb, 0 + j, none⟩ = some u := fun j u hj => by
    match j, hj with
    | 0, hj => simp at hj; subst hj; rw [Nat.zero_add, cell_of_row w vb 0 _ _ _ hvb]; rfl
  have h1v : ∀ u ∈ [intV x], u.oneCell' = true := fun u hu => by simp at hu; subst hu; rfl
  have hlen := insL_len l i x hi
  rcases hown.2 with ⟨rfl, h0⟩ | ⟨g, cap, cur, rfl, hg, hh, h1, h2, h3, h4⟩
  · obtain rfl : l = [] := List.eq_nil_of_length_eq_zero h0
    obtain rfl : i = 0 := by simpa using hi
    have := Any2.slices_Insert_int_end_grow Tryz.laysNm221 none 0 0 vb 0 1 1 [] [intV x] w (by omega) (Nat.le_refl _) (by omega) (by omega) rfl rfl (fun _ => rfl) (fun a ha => by cases ha) hvs h1v
    refine this.mono ?_
    rintro e w' ⟨rfl, rfl⟩
    have hge := grownCap_ge w 1 0 3
    have hgm := grownCap_le_maxLen w 1 0 3 (by unfold maxLen; omega)
    refine ⟨_, rfl, new_own (l := [x]) (xs := [intV x]) (G := grownCap w 1 0 3) hbase rfl hge hgm, ⟨rfl, rfl, rfl, by simp, fun k hk _ => heap_alloc_old w.drew _ hk⟩⟩
  · rw [Nat.mul_one] at h3 h4
    have hcl : (l.map intV).length = l.length := List.length_map _
    have hcur : ∀ j, j < l.length → cur[j]? = (l.map intV)[j]? := fun j hj => by
      rw [← h4, List.getElem?_take, if_pos hj]; simp
    have hcs : ∀ j u, (l.map intV)[j]? = some u → w.cell? ⟨g, 0 + j, none⟩ = some u := fun j u hj => by
      have hlt := (List.getElem?_eq_some_iff.1 hj).1
      rw [Nat.zero_add, cell_of_row w g j _ _ _ hh, hcur j (by simpa using hlt), hj]
    have hblk : (Value.slice (some ⟨g, 0, none⟩) l.length cap).ownBlock = some g := rfl
    have hfz : ∀ j, w.frozen? ⟨g, j, none⟩ = false := fun j => by simp [World.frozen?, hh]
    have hgl := lt_of_block hh
    have hinsV : ∀ j, j < l.length + 1 → ((insL l i x).map intV)[j]? = if j < i then (l.map intV)[j]? else if j = i then some (intV x) else (l.map intV)[j - 1]? := fun j hj => by
      rw [List.getElem?_map, insL_at l i x j hi]
      split
      · rw [List.getElem?_map]
      · split
        · rfl
        · rw [List.getElem?_map]
    by_cases hroom : l.length + 1 ≤ cap
    · have hsp : ∀ j, j < cap → (w.cell? ⟨g, 0 + j, none⟩).isSome = true := fun j hj => by
        rw [Nat.zero_add, cell_of_row w g j _ _ _ hh, Array.getElem?_eq_getElem (by omega)]; rfl
      by_cases hin : i = l.length
      · subst hin
        have := Any2.slices_Insert_int_end_room Tryz.laysNm221 g 0 l.length cap vb 0 1 1 [intV x] w (by omega) hroom (by unfold maxLen at h2; omega) rfl (fun j hj => by have := hsp (l.length + j) (by omega); rwa [← Nat.add_assoc] at this) (fun j _ => hfz _) hvs h1v
        refine this.mono ?_
        rintro e w' ⟨rfl, rfl⟩
        obtain ⟨cur', k1, k2, k3⟩ := heap_setCells g [intV x] (0 + l.length) w cur 3 hh (by simp; omega)
        have ho := own_of (w := w.setCells g (0 + l.length) [intV x]) (base := base) (cap := cap) (l := insL l l.length x) hg k1 (by omega) h2 (by omega) (fun j hj => by
          rw [hlen] at hj
          rw [k3 j, hinsV j hj]
          simp only [List.length_singleton, Nat.zero_add]
          by_cases a : j < l.length
          · rw [if_neg (by omega), if_pos a, hcur j a]
          · obtain rfl : j = l.length := by omega
            rw [if_pos (by omega), if_neg (by omega), if_pos rfl, Nat.sub_self]
            rfl)
        rw [hlen] at ho
        exact ⟨_, rfl, ho, hblk ▸ setCells_grownBy g _ _ w⟩
      · have hlt : i < l.length := by omega
        have hshv : w.shape? vb = some (3, 1) := by simp [World.shape?, hvb]
        have hshg : w.shape? g = some (3, cap) := by simp [World.shape?, hh, h3]
        have := Any2.slices_Insert_int_shift Tryz.laysNm221 g 0 l.length cap i vb 0 1 1 (l.map intV) [intV x] w hlt (by omega) hroom (by unfold maxLen at h2; omega) (fun e => hne (by rw [hblk, e])) hcl rfl hcs (fun j hj => hsp j (by omega)) (fun j _ => hfz _) hvs (intV_one l) h1v _ _ _ _ hshv hshg (by omega) (by simp [World.frozen?, hvb]) (by simp [World.frozen?, hvb])
        refine this.mono ?_
        rintro e w' ⟨rfl, rfl⟩
        obtain ⟨cur1, a1, a2, a3⟩ := heap_setCells g ((l.map intV).drop i) (0 + (i + 1)) w.drew cur 3 hh (by simp; omega)
        obtain ⟨cur', k1, k2, k3⟩ := heap_setCells g [intV x] (0 + i) _ cur1 3 a1 (by simp; omega)
        have ho := own_of (w := (w.drew.setCells g (0 + (i + 1)) ((l.map intV).drop i)).setCells g (0 + i) [intV x]) (base := base) (cap := cap) (l := insL l i x) hg k1 (by omega) h2 (by omega) (fun j hj => by
          rw [hlen] at hj
          rw [k3 j, a3 j, hinsV j hj]
          simp only [List.length_singleton, Nat.zero_add, List.length_drop, List.length_map]
          by_cases a : j < i
          · rw [if_neg (by omega), if_neg (by omega), if_pos a, hcur j (by omega)]
          · by_cases c : j = i
            · subst c
              rw [if_pos (by omega), if_neg (by omega), if_pos rfl, Nat.sub_self]
              rfl
            · rw [if_neg (by omega), if_pos (by omega), if_neg a, if_neg c, List.getElem?_drop]
              congr 1
              omega)
        rw [hlen] at ho
        refine ⟨_, rfl, ho, ?_⟩
        rw [hblk]
        have g1 := setCells_grownBy g ((l.map intV).drop i) (0 + (i + 1)) w.drew
        have g2 := setCells_grownBy g [intV x] (0 + i) (w.drew.setCells g (0 + (i + 1)) ((l.map intV).drop i))
        exact ⟨g2.os.trans g1.os, g2.tape.trans g1.tape, g2.output.trans g1.output, Nat.le_trans g1.size g2.size, fun k hk hn => (g2.block k (Nat.lt_of_lt_of_le hk g1.size) hn).trans (g1.block k hk hn)⟩
    · have hge := grownCap_ge w (l.length + 1) cap 3
      have hgm := grownCap_le_maxLen w (l.length + 1) cap 3 (by unfold maxLen; omega)
      by_cases hin : i = l.length
      · subst hin
        have := Any2.slices_Insert_int_end_grow Tryz.laysNm221 (some ⟨g, 0, none⟩) l.length cap vb 0 1 1 (l.map intV) [intV x] w (by omega) h1 (by omega) (by omega) hcl rfl (fun h => by cases h) (fun a ha j u hj => by cases ha; rw [Addr.add_lit]; exact hcs j u hj) hvs h1v
        refine this.mono ?_
        rintro e w' ⟨rfl, rfl⟩
        have ho := new_own (w := w) (base := base) (l := insL l l.length x) (xs := l.map intV ++ [intV x]) (G := grownCap w (l.length + 1) cap 3) hbase (by unfold insL; simp) (by omega) hgm
        rw [hlen] at ho
        exact ⟨_, rfl, ho, ⟨rfl, rfl, rfl, by simp, fun k hk _ => heap_alloc_old w.drew _ hk⟩⟩
      · have hlt : i < l.length := by omega
        have := Any2.slices_Insert_int_grow Tryz.laysNm221 g 0 l.length cap i vb 0 1 1 (l.map intV) [intV x] w hlt (by omega) h1 (by omega) (by omega) hcl rfl hcs hvs (intV_one l) h1v
        rw [show Tryz.laysNm221_ren.t 3 = 3 from rfl] at this
        refine this.mono ?_
        rintro e w' ⟨rfl, rfl⟩
        have hz1 : (Builtin.zeroCells (Value.int .i64 0).cells (l.length + 1 - i)).size = l.length + 1 - i := by rw [size_zeroCells]; show (l.length + 1 - i) * 1 = _; omega
        have hz2 : (Builtin.zeroCells (Value.int .i64 0).cells (grownCap w (l.length + 1) cap 3 - (l.length + 1))).size = grownCap w (l.length + 1) cap 3 - (l.length + 1) := by rw [size_zeroCells]; show (_ - (l.length + 1)) * 1 = _; omega
        have hcur0 := heap_alloc_new w (.cells (((l.map intV).take i).toArray ++ Builtin.zeroCells (Value.int .i64 0).cells (l.length + 1 - i) ++ Builtin.zeroCells (Value.int .i64 0).cells (grownCap w (l.length + 1) cap 3 - (l.length + 1))) 3)
        generalize Builtin.zeroCells (Value.int .i64 0).cells (l.length + 1 - i) = za at *
        generalize Builtin.zeroCells (Value.int .i64 0).cells (grownCap w (l.length + 1) cap 3 - (l.length + 1)) = zb at *
        have hsz0 : (((l.map intV).take i).toArray ++ za ++ zb).size = grownCap w (l.length + 1) cap 3 := by
          rw [Array.size_append, Array.size_append, hz1, hz2]; simp; omega
        have hc0 : ∀ j, j < i → (((l.map intV).take i).toArray ++ za ++ zb)[j]? = (l.map intV)[j]? := fun j hj => by
          rw [Array.getElem?_append_left (by rw [Array.size_append]; simp; omega), Array.getElem?_append_left (by simp; omega)]
          simp [List.getElem?_take, hj]
        have hbw := World.grownBy_alloc w (.cells (((l.map intV).take i).toArray ++ za ++ zb) 3) (some g)
        generalize hcc : ((l.map intV).take i).toArray ++ za ++ zb = cc at *
        obtain ⟨cur1, a1, a2, a3⟩ := heap_setCells w.heap.size [intV x] i (w.alloc (.cells cc 3)).drew cc 3 hcur0 (by simp; omega)
        obtain ⟨cur', k1, k2, k3⟩ := heap_setCells w.heap.size ((l.map intV).drop i) (i + 1) ((w.alloc (.cells cc 3)).drew.setCells w.heap.size i [intV x]).drew cur1 3 a1 (by simp; omega)
        have ho := own_of (base := base) (cap := grownCap w (l.length + 1) cap 3) (l := insL l i x) hbase k1 (by omega) hgm (by omega) (fun j hj => by
          rw [hlen] at hj
          rw [k3 j, a3 j, hinsV j hj]
          simp only [List.length_singleton, List.length_drop, List.length_map]
          by_cases a : j < i
          · rw [if_neg (by omega), if_neg (by omega), if_pos a, hc0 j a]
          · by_cases c : j = i
            · subst c
              rw [if_neg (by omega), if_pos (by omega), if_neg a, if_pos rfl, Nat.sub_self]
              rfl
            · rw [if_pos (by omega), if_neg a, if_neg c, List.getElem?_drop]
              congr 1
              omega)
        rw [hlen] at ho
        refine ⟨_, rfl, ho, ?_⟩
        have g1 := setCells_grownBy w.heap.size [intV x] i (w.alloc (.cells cc 3)).drew
        have g2 := setCells_grownBy w.heap.size ((l.map intV).drop i) (i + 1) ((w.alloc (.cells cc 3)).drew.setCells w.heap.size i [intV x]).drew
        have hs1 : w.heap.size ≤ (w.alloc (.cells cc 3)).heap.size := by simp
        exact ⟨g2.os.trans g1.os, g2.tape.trans g1.tape, g2.output.trans g1.output, Nat.le_trans hs1 (Nat.le_trans g1.size g2.size), fun k hk _ =>
          (g2.block k (Nat.lt_of_lt_of_le (Nat.lt_of_lt_of_le hk hs1) g1.size) (fun e => by injection e with e; omega)).trans ((g1.block k (Nat.lt_of_lt_of_le hk hs1) (fun e => by injection e with e; omega)).trans (heap_alloc_old w _ hk))⟩
end Go.Proofs.YtbonnmkkacplgaaGreatDoor

/- Plain facts on UTF-8: the character at a place of a text. -/
namespace Go.Proofs.YtbonnmkkacplgaaGreatDoor

/-- What Go's decoder tells of a place. -/
def decB (s : ByteArray) (i : Nat) : Nat × Nat := Lib.decodeN (s.size - i) (byteAt s i).toNat (byteAt s (i + 1)).toNat (byteAt s (i + 2)).toNat (byteAt s (i + 3)).toNat
/-- A character stands at a place. -/
def okB (s : ByteArray) (i : Nat) : Bool := decide (decB s i ≠ (65533, 1))
/-- A number is a character. -/
def rightC (n : Nat) : Prop := n < 55296 ∨ (57344 ≤ n ∧ n ≤ 1114111)

theorem byteAt_get (s : ByteArray) (i : Nat) : s.get! i = byteAt s i := by
  unfold byteAt ByteArray.get!
  simp [List.getD, Array.getElem!_eq_getD, Array.getD_eq_getD_getElem?]
  rfl

theorem decodeN_bounds (n b0 b1 b2 b3 : Nat) (hn : 0 < n) (h0 : b0 < 256) : 1 ≤ (Lib.decodeN n b0 b1 b2 b3).2 ∧ (Lib.decodeN n b0 b1 b2 b3).2 ≤ 4 ∧ (Lib.decodeN n b0 b1 b2 b3).2 ≤ n ∧ rightC (Lib.decodeN n b0 b1 b2 b3).1 := by
  unfold Lib.decodeN rightC
  repeat' split
  all_goals (simp only []; omega)

theorem decB_bounds (s : ByteArray) (i : Nat) (hi : i < s.size) : 1 ≤ (decB s i).2 ∧ (decB s i).2 ≤ 4 ∧ i + (decB s i).2 ≤ s.size ∧ rightC (decB s i).1 := by
  have := decodeN_bounds (s.size - i) (byteAt s i).toNat (byteAt s (i + 1)).toNat (byteAt s (i + 2)).toNat (byteAt s (i + 3)).toNat (by omega) (byteAt s i).toNat_lt
  change 1 ≤ (decB s i).2 ∧ (decB s i).2 ≤ 4 ∧ (decB s i).2 ≤ s.size - i ∧ rightC (decB s i).1 at this
  obtain ⟨a, b, c, d⟩ := this
  exact ⟨a, b, by omega, d⟩

theorem byteAt_extract (s : ByteArray) (i j : Nat) (_ : i + j < s.size) : byteAt (s.extract i s.size) j = byteAt s (i + j) := by
  unfold byteAt
  rw [Lib.extract_data, List.take_of_length_le (by simp)]
  simp [List.getD]
theorem byteAt_out (s : ByteArray) (j : Nat) (h : s.size ≤ j) : byteAt s j = 0 := by
  unfold byteAt
  rw [List.getD, List.getElem?_eq_none (by exact h)]
  rfl
theorem extract_tail_size (s : ByteArray) (i : Nat) (h : i ≤ s.size) : (s.extract i s.size).size = s.size - i := by
  rw [ByteArray.size_extract]; omega

theorem decodeGo_extract (s : ByteArray) (i : Nat) (hi : i < s.size) : Lib.decodeGo (s.extract i s.size) = decB s i := by
  have hsz := extract_tail_size s i (by omega)
  have hb : ∀ j, byteAt (s.extract i s.size) j = byteAt s (i + j) := fun j => by
    by_cases h : i + j < s.size
    · exact byteAt_extract s i j h
    · rw [byteAt_out _ _ (by rw [hsz]; omega), byteAt_out _ _ (by omega)]
  rw [Lib.decodeGo, if_neg (by omega), Lib.decode_at, hsz, Nat.sub_zero]
  simp only [byteAt_get, hb, Nat.zero_add, decB, Nat.add_zero]

/-- The characters from a place on, and the place at which none stands. -/
def chrsFrom (s : ByteArray) : Nat → Nat → List Nat × Option Nat
  | 0, _ => ([], none)
  | f + 1, i => if i < s.size then (if okB s i = true then ((decB s i).1 :: (chrsFrom s f (i + (decB s i).2)).1, (chrsFrom s f (i + (decB s i).2)).2) else ([], some i)) else ([], none)
/-- A text's characters, and the place at which none stands. -/
def chrs (s : ByteArray) : List Nat × Option Nat := chrsFrom s s.size 0

/-- So many characters have been read, up to a place. -/
def Reach (s : ByteArray) (l : List Nat) (i : Nat) : Prop := ∃ f, s.size - i ≤ f ∧ l.length ≤ i ∧ chrs s = (l ++ (chrsFrom s f i).1, (chrsFrom s f i).2)
theorem Reach.zero (s : ByteArray) : Reach s [] 0 := ⟨s.size, by omega, by simp, by simp [chrs]⟩
theorem Reach.step {s : ByteArray} {l : List Nat} {i : Nat} (h : Reach s l i) (hi : i < s.size) (ho : okB s i = true) : Reach s (l ++ [(decB s i).1]) (i + (decB s i).2) := by
  obtain ⟨f, hf, hl, e⟩ := h
  have hd := decB_bounds s i hi
  cases f with
  | zero => omega
  | succ f =>
    rw [chrsFrom, if_pos hi, if_pos ho] at e
    exact ⟨f, by omega, by simp; omega, by simpa using e⟩
theorem Reach.bad {s : ByteArray} {l : List Nat} {i : Nat} (h : Reach s l i) (hi : i < s.size) (ho : okB s i = false) : chrs s = (l, some i) := by
  obtain ⟨f, hf, hl, e⟩ := h
  cases f with
  | zero => omega
  | succ f =>
    rw [chrsFrom, if_pos hi, if_neg (by simp [ho])] at e
    simpa using e
theorem Reach.done {s : ByteArray} {l : List Nat} {i : Nat} (h : Reach s l i) (hi : ¬ i < s.size) : chrs s = (l, none) := by
  obtain ⟨f, hf, hl, e⟩ := h
  cases f with
  | zero => rw [chrsFrom] at e; simpa using e
  | succ f =>
    rw [chrsFrom, if_neg hi] at e
    simpa using e
end Go.Proofs.YtbonnmkkacplgaaGreatDoor

/- Plain facts: the reference's way to a character (its bytes are made, and held against what stands there) is Go's decoder's. -/
namespace Go.Proofs.YtbonnmkkacplgaaGreatDoor

/-- A character's bytes. -/
def putN (n : Nat) : List Nat :=
  if n < 128 then [n] else if n < 2048 then [192 + n / 64, 128 + n % 64] else if n < 65536 then [224 + n / 4096, 128 + n / 64 % 64, 128 + n % 64]
  else [240 + n / 262144, 128 + n / 4096 % 64, 128 + n / 64 % 64, 128 + n % 64]
/-- The number that so many bytes would tell. -/
def guessZ (k b0 b1 b2 b3 : Int) : Int :=
  if k = 1 then b0 else if k = 2 then 64 * (b0 - 192) + b1 - 128 else if k = 3 then 64 * (64 * (b0 - 224) + b1 - 128) + b2 - 128 else 64 * (64 * (64 * (b0 - 240) + b1 - 128) + b2 - 128) + b3 - 128
def rightZ (n : Int) : Prop := 0 ≤ n ∧ n < 1114112 ∧ ¬ (55296 ≤ n ∧ n < 57344)
def firstN (k b0 b1 b2 b3 : Nat) : List Nat := [b0, b1, b2, b3].take k

theorem guess1 (b0 b1 b2 b3 : Int) : guessZ 1 b0 b1 b2 b3 = b0 := by simp [guessZ]
theorem guess2 (b0 b1 b2 b3 : Int) : guessZ 2 b0 b1 b2 b3 = 64 * (b0 - 192) + b1 - 128 := by simp [guessZ]
theorem guess3 (b0 b1 b2 b3 : Int) : guessZ 3 b0 b1 b2 b3 = 64 * (64 * (b0 - 224) + b1 - 128) + b2 - 128 := by simp [guessZ]
theorem guess4 (b0 b1 b2 b3 : Int) : guessZ 4 b0 b1 b2 b3 = 64 * (64 * (64 * (b0 - 240) + b1 - 128) + b2 - 128) + b3 - 128 := by simp [guessZ]

theorem hit_dec {n k b0 b1 b2 b3 : Nat} (hk1 : 1 ≤ k) (hk4 : k ≤ 4) (hkn : k ≤ n) (h0 : b0 < 256) (h1 : b1 < 256) (h2 : b2 < 256) (_ : b3 < 256) (hr : rightZ (guessZ k b0 b1 b2 b3))
    (hp : putN (guessZ k b0 b1 b2 b3).toNat = firstN k b0 b1 b2 b3) : Lib.decodeN n b0 b1 b2 b3 = ((guessZ k b0 b1 b2 b3).toNat, k) ∧ ((guessZ k b0 b1 b2 b3).toNat, k) ≠ (65533, 1) := by
  unfold rightZ at hr
  obtain ⟨N, hN⟩ := Int.eq_ofNat_of_zero_le hr.1
  rw [hN] at hr hp ⊢
  rw [Int.toNat_natCast] at hp ⊢
  have hc : k = 1 ∨ k = 2 ∨ k = 3 ∨ k = 4 := by omega
  rcases hc with rfl | rfl | rfl | rfl
  · rw [show ((1 : Nat) : Int) = 1 from rfl, guess1] at hN
    unfold putN firstN at hp
    repeat' split at hp
    all_goals simp at hp
    refine ⟨?_, by simp; omega⟩
    unfold Lib.decodeN
    rw [if_pos (by omega)]
    simp; omega
  · rw [show ((2 : Nat) : Int) = 2 from rfl, guess2] at hN
    unfold putN firstN at hp
    repeat' split at hp
    all_goals simp at hp
    refine ⟨?_, by simp⟩
    unfold Lib.decodeN
    rw [if_neg (by omega), if_pos (by omega), if_pos (by omega)]
    simp; omega
  · rw [show ((3 : Nat) : Int) = 3 from rfl, guess3] at hN
    unfold putN firstN at hp
    repeat' split at hp
    all_goals simp at hp
    refine ⟨?_, by simp⟩
    unfold Lib.decodeN
    rw [if_neg (by omega), if_neg (by omega), if_pos (by omega), if_pos (by omega)]
    simp; omega
  · rw [show ((4 : Nat) : Int) = 4 from rfl, guess4] at hN
    unfold putN firstN at hp
    repeat' split at hp
    all_goals simp at hp
    refine ⟨?_, by simp⟩
    unfold Lib.decodeN
    rw [if_neg (by omega), if_neg (by omega), if_neg (by omega), if_pos (by omega), if_pos (by omega)]
    simp; omega

theorem dec_hit {n b0 b1 b2 b3 : Nat} (hn : 0 < n) (h0 : b0 < 256) (h1 : b1 < 256) (h2 : b2 < 256) (_ : b3 < 256) (ho : Lib.decodeN n b0 b1 b2 b3 ≠ (65533, 1)) :
    ∃ k, 1 ≤ k ∧ k ≤ 4 ∧ k ≤ n ∧ rightZ (guessZ k b0 b1 b2 b3) ∧ putN (guessZ k b0 b1 b2 b3).toNat = firstN k b0 b1 b2 b3 := by
  unfold Lib.decodeN at ho
  repeat' split at ho
  all_goals first | exact absurd rfl ho | skip
  · refine ⟨1, by omega, by omega, by omega, ?_, ?_⟩
    all_goals rw [show ((1 : Nat) : Int) = 1 from rfl, guess1]
    · unfold rightZ; omega
    · rw [Int.toNat_natCast]; unfold putN firstN
      rw [if_pos (by omega)]; rfl
  · refine ⟨2, by omega, by omega, by omega, ?_, ?_⟩
    all_goals rw [show ((2 : Nat) : Int) = 2 from rfl, guess2]
    · unfold rightZ; omega
    · unfold putN firstN
      rw [if_neg (by omega), if_pos (by omega)]
      simp; omega
  · refine ⟨3, by omega, by omega, by omega, ?_, ?_⟩
    all_goals rw [show ((3 : Nat) : Int) = 3 from rfl, guess3]
    · unfold rightZ; omega
    · unfold putN firstN
      rw [if_neg (by omega), if_neg (by omega), if_pos (by omega)]
      simp; omega
  · refine ⟨4, by omega, by omega, by omega, ?_, ?_⟩
    all_goals rw [show ((4 : Nat) : Int) = 4 from rfl, guess4]
    · unfold rightZ; omega
    · unfold putN firstN
      rw [if_neg (by omega), if_neg (by omega), if_neg (by omega)]
      simp; omega
end Go.Proofs.YtbonnmkkacplgaaGreatDoor

/- The contracts of package api: Fail makes a fault in a new block. -/
namespace Go.Proofs.YtbonnmkkacplgaaGreatDoor
open Go.RowKit

theorem api_Fail (k i : Int) (w : World) : Calls Tryz.prog 33 #[.int .i64 k, .int .i64 i] w fun e w' =>
    e = .returned (.iface 77 (.pointer (some ⟨w.heap.size, 0, none⟩))) ∧ w.alloc (.cells #[.int .i64 k, .int .i64 i, .nilIface] 79) = w' := by
  go_enter Tryz.func33, Tryz.ntmps33
  go_wp2
  go_ret
  exact ⟨rfl, rfl⟩

theorem api_Fail' (k i : Int) (w : World) : Calls Tryz.prog 33 #[.int .i64 k, .int .i64 i] w fun e w' =>
    ∃ v, e = .returned v ∧ IsFault w' v k i ∧ Below w.heap.size w w' :=
  (api_Fail k i w).mono fun _ _ ⟨he, hw⟩ => ⟨_, he, ⟨_, rfl, by rw [← hw]; exact heap_alloc_new w _⟩, by rw [← hw]; exact (Below.refl _ _).alloc (Nat.le_refl _) _⟩
end Go.Proofs.YtbonnmkkacplgaaGreatDoor
