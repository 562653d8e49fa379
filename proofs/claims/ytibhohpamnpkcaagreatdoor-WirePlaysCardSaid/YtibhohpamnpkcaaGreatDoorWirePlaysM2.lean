/- A row of requests that wait, read and written in place. -/
import Derived.Test.YtibhohpamnpkcaaGreatDoorWirePlaysM1
import Derived.Lib.LazyBuf
import Derived.Deep.MidRow
import Derived.Deep.RegionLaw
import Derived.Deep.Upon

namespace Go.Proofs.YtibhohpamnpkcaaGreatDoor
open Go.RowKit

def HasW (f : Nat → Value) (A : List Wt) : Prop := ∀ (i : Nat) x, A[i]? = some x → ∀ c, c < 7 → some (f (i * 7 + c)) = (wtC x)[c]?
def RowW (w : World) (R cap : Nat) (A : List Wt) : Prop := ∃ f, w.rowIs R 82 (cap * 7) f ∧ HasW f A ∧ A.length ≤ cap
theorem RowW.lt {w : World} {R cap : Nat} {A : List Wt} (h : RowW w R cap A) : R < w.heap.size := by obtain ⟨f, h, _⟩ := h; exact h.lt
theorem RowW.len {w : World} {R cap : Nat} {A : List Wt} (h : RowW w R cap A) : A.length ≤ cap := by obtain ⟨f, _, _, h⟩ := h; exact h
theorem RowW.of_block {w w' : World} {R cap : Nat} {A : List Wt} (h : RowW w R cap A) (e : w'.heap[R]? = w.heap[R]?) : RowW w' R cap A := by
  obtain ⟨f, h1, h2⟩ := h; exact ⟨f, h1.of_block e, h2⟩
theorem RowW.range {w : World} {R cap i : Nat} {A : List Wt} {x : Wt} (h : RowW w R cap A) (hx : A[i]? = some x) : w.rangeAt R (i * 7) (wtC x) := by
  obtain ⟨f, h1, h2, h3⟩ := h
  intro j v hj
  have hi := (List.getElem?_eq_some_iff.1 hx).1
  have hj7 : j < 7 := (List.getElem?_eq_some_iff.1 hj).1
  rw [h1.cell (by omega), h2 i x hx j hj7, hj]
theorem RowW.cells {w : World} {R cap i : Nat} {A : List Wt} {x : Wt} (h : RowW w R cap A) (hx : A[i]? = some x) :
    w.cell? ⟨R, i * 7, none⟩ = some (.int .u64 x.r.id) ∧ w.cell? ⟨R, i * 7 + 1, none⟩ = some (.string x.r.app) ∧ w.cell? ⟨R, i * 7 + 2, none⟩ = some (.bool x.r.apple) ∧ w.cell? ⟨R, i * 7 + 3, none⟩ = some (.int .i64 x.r.kind) ∧
    w.cell? ⟨R, i * 7 + 4, none⟩ = some (.string x.r.text) ∧ w.cell? ⟨R, i * 7 + 5, none⟩ = some (.string x.r.url) ∧ w.cell? ⟨R, i * 7 + 6, none⟩ = some (.int .u64 x.since) :=
  ⟨h.range hx 0 _ rfl, h.range hx 1 _ rfl, h.range hx 2 _ rfl, h.range hx 3 _ rfl, h.range hx 4 _ rfl, h.range hx 5 _ rfl, h.range hx 6 _ rfl⟩
theorem RowW.there {w : World} {R cap o n : Nat} {A : List Wt} (h : RowW w R cap A) (hn : o + n ≤ cap * 7) : w.there R o n := by
  obtain ⟨f, h1, _, _⟩ := h
  intro j hj
  exact ⟨by rw [h1.cell (by omega)]; rfl, h1.frozen _⟩
/-- Cells are written, all of which lie behind, or beside, what is still said of the row. -/
theorem RowW.write {w : World} {R cap o : Nat} {A B : List Wt} (h : RowW w R cap A) (vs : List Value) (hB : B.length ≤ cap) (hb : ∀ (i : Nat) x, B[i]? = some x → ∀ c, c < 7 → if o ≤ i * 7 + c ∧ i * 7 + c < o + vs.length then vs[i * 7 + c - o]? = (wtC x)[c]? else ∃ y, A[i]? = some y ∧ (wtC y)[c]? = (wtC x)[c]?) : RowW (w.setCells R o vs) R cap B := by
  obtain ⟨f, h1, h2, h3⟩ := h
  refine ⟨_, Go.rowIs_setCells vs o w f h1, fun i x hx c hc => ?_, hB⟩
  have := hb i x hx c hc
  by_cases hin : o ≤ i * 7 + c ∧ i * 7 + c < o + vs.length
  · rw [if_pos hin] at this
    show some (if _ then _ else _) = _
    rw [if_pos hin, ← this, List.getElem?_eq_getElem (by omega)]
    rfl
  · rw [if_neg hin] at this
    show some (if _ then _ else _) = _
    rw [if_neg hin]
    obtain ⟨y, hy, e⟩ := this
    rw [← e]
    exact h2 i y hy c hc
theorem RowW.set {w : World} {R cap i : Nat} {A : List Wt} (h : RowW w R cap A) (hi : i < A.length) (y : Wt) : RowW (w.setCells R (i * 7) (wtC y)) R cap (A.set i y) := by
  refine h.write _ (by rw [List.length_set]; exact h.len) fun k x hx c hc => ?_
  have hl : (wtC y).length = 7 := rfl
  rw [hl]
  rw [List.getElem?_set] at hx
  by_cases hk : i = k
  · subst hk
    rw [if_pos rfl, if_pos hi] at hx
    cases hx
    rw [if_pos (by omega), show i * 7 + c - i * 7 = c by omega]
  · rw [if_neg hk] at hx
    rw [if_neg (by omega)]
    exact ⟨x, hx, rfl⟩
theorem RowW.cut {w : World} {R cap n : Nat} {A : List Wt} (h : RowW w R cap A) (vs : List Value) : RowW (w.setCells R (n * 7) vs) R cap (A.take n) := by
  refine h.write _ (by rw [List.length_take]; have := h.len; omega) fun k x hx c hc => ?_
  rw [List.getElem?_take] at hx
  by_cases hk : k < n
  · rw [if_pos hk] at hx
    rw [if_neg (by omega)]
    exact ⟨x, hx, rfl⟩
  · rw [if_neg hk] at hx; cases hx
theorem wtsV_get {l : List Wt} {i c : Nat} {x : Wt} (h : l[i]? = some x) (hc : c < 7) : (wtsV l)[i * 7 + c]? = (wtC x)[c]? := wtsV_at h c hc
/-- The tail of a row is moved to the left. -/
theorem RowW.move {w : World} {R cap i j : Nat} {A : List Wt} (h : RowW w R cap A) (hij : i ≤ j) (hj : j ≤ A.length) : RowW (w.setCells R (i * 7) (wtsV (A.drop j))) R cap (A.take i ++ A.drop j) := by
  have hc := h.len
  have hl : (wtsV (A.drop j)).length = (A.length - j) * 7 := by rw [wtsV_len, List.length_drop]
  refine h.write _ (by rw [List.length_append, List.length_take, List.length_drop]; omega) fun k x hx c hc => ?_
  rw [hl]
  rw [List.getElem?_append, List.length_take, Nat.min_eq_left (by omega)] at hx
  by_cases hk : k < i
  · rw [if_pos hk, List.getElem?_take, if_pos hk] at hx
    rw [if_neg (by omega)]
    exact ⟨x, hx, rfl⟩
  · rw [if_neg hk] at hx
    have hlt := (List.getElem?_eq_some_iff.1 hx).1
    rw [List.length_drop] at hlt
    rw [if_pos (by omega), show k * 7 + c - i * 7 = (k - i) * 7 + c by omega]
    exact wtsV_get hx hc
theorem OwnW.cases {w : World} {base : Nat} {v : Value} {l : List Wt} (h : OwnW w base v l) : (v = .slice none 0 0 ∧ l = []) ∨ ∃ g cap, v = .slice (some ⟨g, 0, none⟩) l.length cap ∧ base ≤ g ∧ cap ≤ maxLen ∧ RowW w g cap l := by
  unfold OwnW at h
  obtain ⟨hlen, h⟩ := h
  rcases h with ⟨e0, e1⟩ | ⟨g, cap, cur, e0, hg, hh, h1, h2, h3, h4⟩
  · exact .inl ⟨e0, List.eq_nil_of_length_eq_zero e1⟩
  · refine .inr ⟨g, cap, e0, hg, h2, fun j => (cur[j]?).getD default, ⟨cur, hh, h3, fun i hi => ?_⟩, fun i x hx c hc => ?_, h1⟩
    · show cur[i]? = some ((cur[i]?).getD default)
      rw [Array.getElem?_eq_getElem (by omega)]; rfl
    · have hi := (List.getElem?_eq_some_iff.1 hx).1
      have hm := wtsV_at hx c hc
      rw [← h4, List.getElem?_take, if_pos (by omega), Array.getElem?_toList] at hm
      rw [← hm]
      show some ((cur[i * 7 + c]?).getD default) = _
      rw [Array.getElem?_eq_getElem (by omega)]; rfl
theorem RowW.own {w : World} {base R cap : Nat} {l : List Wt} (h : RowW w R cap l) (hb : base ≤ R) (hm : cap ≤ maxLen) : OwnW w base (.slice (some ⟨R, 0, none⟩) l.length cap) l := by
  obtain ⟨f, ⟨cur, hh, hs, hf⟩, h2, h3⟩ := h
  refine ⟨wtsV_len l, .inr ⟨R, cap, cur, rfl, hb, hh, h3, hm, hs, ?_⟩⟩
  apply List.ext_getElem?
  intro j
  rw [List.getElem?_take]
  by_cases hj : j < l.length * 7
  · rw [if_pos hj, Array.getElem?_toList, hf j (by omega)]
    obtain ⟨x, hx⟩ : ∃ x, l[j / 7]? = some x := ⟨_, List.getElem?_eq_getElem (by omega)⟩
    have e : j / 7 * 7 + j % 7 = j := by omega
    have h5 := h2 _ x hx (j % 7) (by omega)
    have h6 := wtsV_at hx (j % 7) (by omega)
    rw [e] at h5 h6
    rw [h5, h6]
  · rw [if_neg hj, List.getElem?_eq_none (by rw [wtsV_len]; omega)]
end Go.Proofs.YtibhohpamnpkcaaGreatDoor

/- slices.IndexFunc over requests that wait, with a test that may keep what it was shown. -/
namespace Go.Proofs.YtibhohpamnpkcaaGreatDoor
open Go.RowKit

theorem grown_low {a w w' : World} {row : Option Nat} (h : a.grownBy w row) (hb : Below a.heap.size w w') : a.grownBy w' row :=
  ⟨hb.os.trans h.os, hb.tape.trans h.tape, hb.output.trans h.output, Nat.le_trans h.size hb.size, fun k hk hne => (hb.block k hk).trans (h.block k hk hne)⟩
theorem low_trans {B : Nat} {a w w' : World} (h : Below B a w) (hb : Below B w w') : Below B a w' :=
  ⟨hb.os.trans h.os, hb.tape.trans h.tape, hb.output.trans h.output, Nat.le_trans h.size hb.size, fun k hk => (hb.block k hk).trans (h.block k hk)⟩
theorem RowW.low {B : Nat} {w w' : World} {R cap : Nat} {A : List Wt} (h : RowW w R cap A) (hb : Below B w w') (hR : R < B) : RowW w' R cap A := h.of_block (hb.block R hR)
/-- A test that a closure makes; what is kept of those that it is true of; blocks ahead of B stay as they are. -/
def TestW (B : Nat) (J : List Rq → World → Prop) (f : FuncId) (caps : Array Value) (P : Wt → Bool) (l : List Wt) : Prop := ∀ (W : World) (acc : List Rq) (x : Wt), x ∈ l → acc.length ≤ 1000 → B ≤ W.heap.size → J acc W → Calls Tryz.prog f (#[wtV x] ++ caps) W fun e w' => e = .returned (.bool (P x)) ∧ Below B W w' ∧ J (if P x = true then acc ++ [x.r] else acc) w'
def IdxPost (B : Nat) (J : List Rq → World → Prop) (P : Wt → Bool) (l : List Wt) (acc : List Rq) (w : World) (e : Ending) (w' : World) : Prop := Below B w w' ∧ ((e = .returned (.int .i64 (-1)) ∧ (∀ x ∈ l, P x = false) ∧ J acc w') ∨ ∃ (i : Nat) (x : Wt), l[i]? = some x ∧ P x = true ∧ (∀ y ∈ l.take i, P y = false) ∧ e = .returned (.int .i64 (i : Int)) ∧ J (acc ++ [x.r]) w')
set_option maxHeartbeats 1600000 in
set_option maxRecDepth 100000 in
theorem wt_IndexFunc (B R cap : Nat) (J : List Rq → World → Prop) (l : List Wt) (f : FuncId) (caps : Array Value) (P : Wt → Bool) (acc : List Rq) (w : World) (hrow : RowW w R cap l) (hR : R < B) (hB : B ≤ w.heap.size) (hJ : J acc w) (hl : l.length ≤ 16777216) (ha : acc.length ≤ 1000) (eg : ∀ args w, (callFunc f args).run Tryz.prog w = .ok (.enter f args) w) (hf : TestW B J f caps P l) :
    Calls Tryz.prog 32 #[.slice (some ⟨R, 0, none⟩) l.length cap, .func (.func f) #[] caps] w (IdxPost B J P l acc w) := by
  have hF := Lib.hid hf
  have HROW := Lib.hid hrow
  have HJ := Lib.hid hJ
  clear hf hrow hJ
  go_enter Tryz.func32, Tryz.ntmps32
  go_wp2_with fail
  go_loopw [8] (fun x wr => ∃ i : Nat, i ≤ l.length ∧ x = .int .i64 i ∧ Below B w wr ∧ J acc wr ∧ ∀ y ∈ l.take i, P y = false) (fun x _ => l.length - (intOf x).toNat)
  case atStart => exact ⟨0, Nat.zero_le _, rfl, Below.refl _ _, HJ.out, fun y h => by simp at h⟩
  case round =>
    obtain ⟨i, hil, rfl, hbr, hj, hall⟩ := hrel
    have HA := Lib.hid hall
    have HJR := Lib.hid hj
    clear hall hj
    by_cases hlt : i < l.length
    · obtain ⟨x, hx⟩ : ∃ x, l[i]? = some x := ⟨_, List.getElem?_eq_getElem hlt⟩
      obtain ⟨c0, c1, c2, c3, c4, c5, c6⟩ := (HROW.out.low hbr hR).cells hx
      have hRw : R < wr.heap.size := (HROW.out.low hbr hR).lt
      have hst : P x = false → ∀ y ∈ l.take (i + 1), P y = false := fun h y hy => by
        rw [List.take_add_one, hx] at hy
        rcases List.mem_append.1 hy with h2 | h2
        · exact HA.out y h2
        · obtain rfl : y = x := by simpa using h2
          exact h
      have HST := Lib.hid hst
      have HX := Lib.hid hx
      have cF := Lib.hid (hF.out wr acc x (List.mem_of_getElem? hx) ha (Nat.le_trans hB hbr.size) HJR.out)
      have hiI : (i : Int) < (l.length : Int) := by omega
      obtain ⟨⟨x0, x1, x2, x3, x4, x5⟩, x6⟩ := x
      simp only at c0 c1 c2 c3 c4 c5 c6
      clear hst hx HJR
      go_wp2_with fail
      refine cF.out.mono ?_
      rintro e w2 ⟨rfl, hb2, hj2⟩
      have hbr2 := low_trans hbr hb2
      cases hP : P ⟨⟨x0, x1, x2, x3, x4, x5⟩, x6⟩ with
      | false =>
        rw [hP] at hj2
        have HJ2 := Lib.hid hj2
        have HX2 := Lib.hid (HST.out hP)
        clear hj2 hP cF
        go_wp2_with fail
        go_roundw
        case rel => exact ⟨i + 1, by omega, by go_num, hbr2, HJ2.out, HX2.out⟩
        case measure => simp [intOf]; omega
      | true =>
        rw [hP] at hj2
        have HJ2 := Lib.hid hj2
        have HP := Lib.hid hP
        clear hj2 hP cF
        go_wp2_with fail
        go_ret
        exact ⟨hbr2, .inr ⟨i, _, HX.out, HP.out, HA.out, rfl, HJ2.out⟩⟩
    · obtain rfl : i = l.length := by omega
      go_wp2_with fail
      go_ret
      exact ⟨hbr, .inl ⟨rfl, by have := HA.out; rwa [List.take_length] at this, HJR.out⟩⟩
set_option maxHeartbeats 800000 in
theorem wt_IndexFunc_nil (J : List Rq → World → Prop) (B : Nat) (f : FuncId) (caps : Array Value) (P : Wt → Bool) (acc : List Rq) (w : World) (hJ : J acc w) :
    Calls Tryz.prog 32 #[.slice none 0 0, .func (.func f) #[] caps] w (IdxPost B J P [] acc w) := by
  have HJ := Lib.hid hJ
  clear hJ
  go_enter Tryz.func32, Tryz.ntmps32
  go_wp2_with fail
  go_loopw [8] (fun x wr => x = .int .i64 0 ∧ w = wr) (fun _ _ => 0)
  case atStart => exact ⟨rfl, rfl⟩
  case round =>
    obtain ⟨rfl, rfl⟩ := hrel
    go_wp2_with fail
    go_ret
    exact ⟨Below.refl _ _, .inl ⟨rfl, fun x h => by simp at h, HJ.out⟩⟩
end Go.Proofs.YtibhohpamnpkcaaGreatDoor

/- slices.Delete and slices.DeleteFunc over requests that wait. -/
namespace Go.Proofs.YtibhohpamnpkcaaGreatDoor
open Go.RowKit

def wtZ : Value := .agg #[.int .u64 0, .string ⟨#[]⟩, .bool false, .int .i64 0, .string ⟨#[]⟩, .string ⟨#[]⟩, .int .u64 0]
theorem zero_wt (w : World) : (zeroValue 82).run Tryz.prog w = .ok wtZ w := Tryz.zeroValue82 w
def zerosW (n : Nat) : List Value := (Builtin.zeroCells wtZ.cells n).toList
/-- clear of a slice of requests that wait. -/
theorem run_clear_wt (w : World) (ty : TypeId) (b o n c : Nat) (hn : 0 < n) (ht : w.there b o (n * 7)) :
    (Builtin.clear_ #[77] ty #[.slice (some ⟨b, o, none⟩) n c]).run Tryz.prog w = .ok (.tuple #[]) (w.setCells b o (zerosW n)) := by
  have hl : (zerosW n).length = n * 7 := by
    unfold zerosW
    simp [Builtin.zeroCells, wtZ, Value.cells]
  have h1 : ∀ v ∈ zerosW n, v.oneCell' = true := by
    intro v hv
    unfold zerosW at hv
    simp [Builtin.zeroCells, wtZ, Value.cells] at hv
    obtain ⟨k, _, rfl⟩ := hv
    have hk : k % 7 = 0 ∨ k % 7 = 1 ∨ k % 7 = 2 ∨ k % 7 = 3 ∨ k % 7 = 4 ∨ k % 7 = 5 ∨ k % 7 = 6 := by omega
    rcases hk with h | h | h | h | h | h | h <;> rw [h] <;> rfl
  have hst := run_storeCells_cells (P := Tryz.prog) b o (zerosW n) 0 w (by rw [hl]; intro j hj; simpa using (ht j hj).1) (by rw [hl]; intro j hj; simpa using (ht j hj).2) h1
  simp only [Nat.add_zero] at hst
  obtain ⟨m, rfl⟩ : ∃ m, n = m + 1 := ⟨n - 1, by omega⟩
  unfold zerosW at hst ⊢
  simp [Builtin.clear_, run_underlying Tryz.underlying77, zero_wt]
  show ((Sem.run Tryz.prog (storeCells ⟨b, o, none⟩ (Builtin.zeroCells wtZ.cells (m + 1)).toList) w).andThen fun a w' => Result.ok (Value.tuple #[]) w') = _
  rw [hst]
  rfl
/-- Of the blocks that there were, L and gb alone may have turned. -/
def OnlyLG (L : Nat) (gb : Option Nat) (W w' : World) : Prop := Below 0 W w' ∧ ∀ k, k < W.heap.size → k ≠ L → some k ≠ gb → w'.heap[k]? = W.heap[k]?
def TestG (B L : Nat) (J : List Rq → Option Nat → World → Prop) (f : FuncId) (caps : Array Value) (P : Wt → Bool) (l : List Wt) : Prop := ∀ (W : World) (acc : List Rq) (gb : Option Nat) (x : Wt), x ∈ l → acc.length ≤ 1000 → B ≤ W.heap.size → J acc gb W → Calls Tryz.prog f (#[wtV x] ++ caps) W fun e w' => e = .returned (.bool (P x)) ∧ OnlyLG L gb W w' ∧ ∃ gb', J (if P x = true then acc ++ [x.r] else acc) gb' w'
/-- What is kept lies in L and in the row gb, behind B. -/
def KeptG (B L : Nat) (J : List Rq → Option Nat → World → Prop) : Prop := ∀ acc gb W, J acc gb W → B ≤ L ∧ L < W.heap.size ∧ ∀ g, gb = some g → B ≤ g ∧ g < W.heap.size
theorem OnlyLG.below {B L : Nat} {gb : Option Nat} {J : List Rq → Option Nat → World → Prop} {acc : List Rq} {W w' : World} (h : OnlyLG L gb W w') (hK : KeptG B L J) (hj : J acc gb W) (hB : B ≤ W.heap.size) : Below B W w' := by
  obtain ⟨h1, h2⟩ := h
  obtain ⟨k1, k2, k3⟩ := hK acc gb W hj
  exact ⟨h1.os, h1.tape, h1.output, h1.size, fun k hk => h2 k (by omega) (by omega) (fun e => by have := k3 k e.symm; omega)⟩
theorem TestG.test {B L : Nat} {J : List Rq → Option Nat → World → Prop} {f : FuncId} {caps : Array Value} {P : Wt → Bool} {l : List Wt} (h : TestG B L J f caps P l) (hK : KeptG B L J) : TestW B (fun acc W => ∃ gb, J acc gb W) f caps P l := by
  intro W acc x hx ha hB hj
  obtain ⟨gb, hj⟩ := hj
  refine (h W acc gb x hx ha hB hj).mono ?_
  rintro e w' ⟨h1, h2, gb', h3⟩
  exact ⟨h1, h2.below hK hj hB, gb', h3⟩
theorem filter_not_take {P : Wt → Bool} {l : List Wt} {i : Nat} {x : Wt} (hx : l[i]? = some x) (hP : P x = true) (hall : ∀ y ∈ l.take i, P y = false) : (l.take (i + 1)).filter (fun x => !P x) = l.take i ∧ (l.take (i + 1)).filter P = [x] := by
  rw [List.take_add_one, hx]
  constructor
  · rw [List.filter_append, List.filter_eq_self.2 (fun y hy => by rw [hall y hy]; rfl)]
    simp [hP]
  · rw [List.filter_append, List.filter_eq_nil_iff.2 (fun y hy => by rw [hall y hy]; decide)]
    simp [hP]
/-- The state of the loop of DeleteFunc: the row A, of which i places are done, and j were seen. -/
def DelSt (P : Wt → Bool) (l A : List Wt) (i j : Nat) : Prop := A.length = l.length ∧ i < j ∧ j ≤ l.length ∧ A.take i = (l.take j).filter (fun x => !P x) ∧ ∀ k, j ≤ k → A[k]? = l[k]?
theorem DelSt.start {P : Wt → Bool} {l : List Wt} {i : Nat} {x : Wt} (hx : l[i]? = some x) (hP : P x = true) (hall : ∀ y ∈ l.take i, P y = false) : DelSt P l l i (i + 1) :=
  ⟨rfl, by omega, (List.getElem?_eq_some_iff.1 hx).1, (filter_not_take hx hP hall).1.symm, fun _ _ => rfl⟩
theorem DelSt.drop {P : Wt → Bool} {l A : List Wt} {i j : Nat} {x : Wt} (h : DelSt P l A i j) (hx : l[j]? = some x) (hP : P x = true) : DelSt P l A i (j + 1) := by
  obtain ⟨h1, h2, h3, h4, h5⟩ := h
  refine ⟨h1, by omega, (List.getElem?_eq_some_iff.1 hx).1, ?_, fun k hk => h5 k (by omega)⟩
  rw [List.take_add_one, hx, List.filter_append, h4]
  simp [hP]
theorem DelSt.keep {P : Wt → Bool} {l A : List Wt} {i j : Nat} {x : Wt} (h : DelSt P l A i j) (hx : l[j]? = some x) (hP : P x = false) : DelSt P l (A.set i x) (i + 1) (j + 1) := by
  obtain ⟨h1, h2, h3, h4, h5⟩ := h
  have hj := (List.getElem?_eq_some_iff.1 hx).1
  refine ⟨by rw [List.length_set, h1], by omega, hj, ?_, fun k hk => ?_⟩
  · rw [List.take_add_one (l := l), hx, List.filter_append, ← h4]
    have e1 : (A.set i x).take (i + 1) = A.take i ++ [x] := by
      rw [List.take_add_one, List.getElem?_set, if_pos rfl, if_pos (by omega), List.take_set_of_le (Nat.le_refl _)]
      rfl
    rw [e1]
    simp [hP]
  · rw [List.getElem?_set, if_neg (by omega)]
    exact h5 k (by omega)
theorem DelSt.done {P : Wt → Bool} {l A : List Wt} {i : Nat} (h : DelSt P l A i l.length) : A.take i = l.filter (fun x => !P x) ∧ (l.filter (fun x => !P x)).length = i := by
  obtain ⟨h1, h2, h3, h4, h5⟩ := h
  rw [List.take_length] at h4
  refine ⟨h4, ?_⟩
  rw [← h4, List.length_take]
  omega
end Go.Proofs.YtibhohpamnpkcaaGreatDoor

/- slices.DeleteFunc over requests that wait: the walk. -/
namespace Go.Proofs.YtibhohpamnpkcaaGreatDoor
open Go.RowKit

theorem info_wt7 : (Tryz.prog.info? 82).map (·.size) = some 7 := by kernel_rfl
theorem wtC_all (x : Wt) : (wtC x).toArray.all (·.oneCell') = true := all_oneCell_toArray (wtC_one x)
theorem size_setCellsW (b : Nat) : ∀ (vs : List Value) (o : Nat) (w : World), (w.setCells b o vs).heap.size = w.heap.size
  | [], _, _ => rfl
  | v :: r, o, w => by
    rw [World.setCells, size_setCellsW b r (o + 1) _]
    simp [World.setCell]
theorem wt_block {w : World} {g : Nat} {x : Wt} {t : TypeId} (h : w.heap[g]? = some (.cells (wtC x).toArray t (0, 0))) :
    w.cell? ⟨g, 0, none⟩ = some (.int .u64 x.r.id) ∧ w.cell? ⟨g, 1, none⟩ = some (.string x.r.app) ∧ w.cell? ⟨g, 2, none⟩ = some (.bool x.r.apple) ∧ w.cell? ⟨g, 3, none⟩ = some (.int .i64 x.r.kind) ∧
    w.cell? ⟨g, 4, none⟩ = some (.string x.r.text) ∧ w.cell? ⟨g, 5, none⟩ = some (.string x.r.url) ∧ w.cell? ⟨g, 6, none⟩ = some (.int .u64 x.since) :=
  ⟨(cell_of_row _ _ 0 _ _ _ h).trans rfl, (cell_of_row _ _ 1 _ _ _ h).trans rfl, (cell_of_row _ _ 2 _ _ _ h).trans rfl, (cell_of_row _ _ 3 _ _ _ h).trans rfl, (cell_of_row _ _ 4 _ _ _ h).trans rfl, (cell_of_row _ _ 5 _ _ _ h).trans rfl, (cell_of_row _ _ 6 _ _ _ h).trans rfl⟩
theorem wpList_store_wt {w : World} {ops : Array Oper} {rest : List Oper} {o : Oper} {a : Act} {Q : Exit → Act → World → Prop} (hgd : o.guard = none) (x y : Operand) (ho : o.op = .store 82 x y) (R n : Nat) (v : Wt) (hx : a.eval x = .pointer (some ⟨R, n * 7, none⟩)) (hy : a.eval y = wtV v)
    (ht : w.there R (n * 7) 7) (h : wpList Tryz.prog ops Q rest (a.put o.dst undef) (w.setCells R (n * 7) (wtC v))) : wpList Tryz.prog ops Q (o :: rest) a w :=
  wpList_store_mid hgd _ x y ho R (n * 7) (wtC v).toArray hx hy ht (by rw [info_wt7]; rfl) (wtC_all v) h
def DelPost (B R cap : Nat) (J : List Rq → Option Nat → World → Prop) (P : Wt → Bool) (l : List Wt) (acc : List Rq) (e : Ending) (w' : World) : Prop := e = .returned (.slice (some ⟨R, 0, none⟩) (l.filter fun x => !P x).length cap) ∧ RowW w' R cap (l.filter fun x => !P x) ∧ B ≤ w'.heap.size ∧ ∃ gb, J (acc ++ (l.filter P).map (·.r)) gb w'
set_option maxHeartbeats 6400000 in
set_option maxRecDepth 100000 in
theorem wt_DeleteFunc (B L R cap : Nat) (J : List Rq → Option Nat → World → Prop) (l : List Wt) (f : FuncId) (caps : Array Value) (P : Wt → Bool) (acc : List Rq) (gb : Option Nat) (w : World) (hrow : RowW w R cap l) (hR : R < B) (hB : B ≤ w.heap.size) (hJ : J acc gb w) (hl : acc.length + l.length ≤ 1000) (hcap : cap ≤ maxLen) (hK : KeptG B L J)
    (hJb : ∀ acc gb W W', J acc gb W → Below W.heap.size W W' → J acc gb W') (hJs : ∀ acc gb W o vs, J acc gb W → J acc gb (W.setCells R o vs)) (eg : ∀ args w, (callFunc f args).run Tryz.prog w = .ok (.enter f args) w) (hf : TestG B L J f caps P l) :
    Calls Tryz.prog 48 #[.slice (some ⟨R, 0, none⟩) l.length cap, .func (.func f) #[] caps] w (DelPost B R cap J P l acc) := by
  have hI := wt_IndexFunc B R cap (fun acc W => ∃ gb, J acc gb W) l f caps P acc w hrow hR hB ⟨gb, hJ⟩ (by omega) (by omega) eg (hf.test hK)
  have HF := Lib.hid hf
  have HJB := Lib.hid hJb
  have HJS := Lib.hid hJs
  have HK := Lib.hid hK
  have HROW := Lib.hid hrow
  have hcl := hrow.len
  unfold maxLen at hcap
  clear hf hJb hJs hJ hK hrow
  go_enter Tryz.func48, Tryz.ntmps48
  go_wp2_with fail
  refine hI.mono ?_
  rintro e w1 ⟨hb1, h⟩
  rcases h with ⟨rfl, hall, gb1, hj1⟩ | ⟨i, x, hx, hP, hall, rfl, gb1, hj1⟩
  · have e1 : l.filter (fun x => !P x) = l := List.filter_eq_self.2 fun y hy => by rw [hall y hy]; rfl
    have e2 : l.filter P = [] := List.filter_eq_nil_iff.2 fun y hy => by rw [hall y hy]; decide
    have H1 := Lib.hid (show RowW w1 R cap l ∧ B ≤ w1.heap.size from ⟨HROW.out.low hb1 hR, Nat.le_trans hB hb1.size⟩)
    have HJ1 := Lib.hid hj1
    have E1 := Lib.hid e1
    have E2 := Lib.hid e2
    clear hall e1 e2 hj1 hI
    go_wp2_with fail
    go_ret
    exact ⟨by rw [E1.out]; rfl, by rw [E1.out]; exact H1.out.1, H1.out.2, gb1, by rw [E2.out]; simpa using HJ1.out⟩
  · have hil := (List.getElem?_eq_some_iff.1 hx).1
    have hst := DelSt.start hx hP hall
    have hft := (filter_not_take hx hP hall).2
    have e0 : ((i : Int) == -1) = false := by rw [beq_eq_false_iff_ne]; omega
    have z1 : IntKind.i64.wrap ((i : Int) + 1) = (i : Int) + 1 := IntWalk.i64_in _ (by omega)
    have hj2 : J (acc ++ ((l.take (i + 1)).filter P).map (·.r)) gb1 w1 := by rw [hft]; exact hj1
    have hr1 : RowW w1 R cap l := HROW.out.low hb1 hR
    have hB1 : B ≤ w1.heap.size := Nat.le_trans hB hb1.size
    have HST := Lib.hid hst
    have HJ2 := Lib.hid hj2
    have HR1 := Lib.hid hr1
    clear hall hx hP hst hft hj1 hj2 hr1 hI HROW hb1
    go_wp2_with fail
    go_loopw [5, 6] (fun u v wr => ∃ (n j : Nat) (A : List Wt) (gb : Option Nat), u = .int .i64 n ∧ v = .int .i64 j ∧ DelSt P l A n j ∧ RowW wr R cap A ∧ B ≤ wr.heap.size ∧ J (acc ++ ((l.take j).filter P).map (·.r)) gb wr) (fun _ v _ => l.length - (intOf v).toNat)
    case atStart => exact ⟨i, i + 1, l, gb1, rfl, by go_num, HST.out, HR1.out, hB1, HJ2.out⟩
    case round =>
      obtain ⟨n, j, A, gb2, rfl, rfl, hst, hrow, hBr, hj⟩ := hrel
      clear HST HR1 HJ2
      obtain ⟨s1, s2, s3, s4, s5⟩ := hst
      have HS := Lib.hid (show DelSt P l A n j from ⟨s1, s2, s3, s4, s5⟩)
      by_cases hlt : j < l.length
      · have hjI : (j : Int) < (l.length : Int) := by omega
        obtain ⟨x, hx⟩ : ∃ x, l[j]? = some x := ⟨_, List.getElem?_eq_getElem hlt⟩
        have hAx : A[j]? = some x := by rw [s5 j (Nat.le_refl _)]; exact hx
        obtain ⟨c0, c1, c2, c3, c4, c5, c6⟩ := hrow.cells hAx
        have hRw := hrow.lt
        have htk : (l.take (j + 1)).filter P = (l.take j).filter P ++ (if P x = true then [x] else []) := by
          rw [List.take_add_one, hx, List.filter_append]
          cases hP : P x <;> simp [hP]
        have hal : Below wr.heap.size wr (wr.alloc (.cells (wtC x).toArray 82)) := (Below.refl _ _).alloc (Nat.le_refl _) _
        have hjv := HJB.out _ _ _ _ hj hal
        have hrv := hrow.low hal hRw
        have hvb := heap_alloc_new wr (.cells (wtC x).toArray 82)
        have hsv : (wr.alloc (.cells (wtC x).toArray 82)).heap.size = wr.heap.size + 1 := by simp
        have hkj := HK.out _ _ _ hj
        have cF := HF.out _ _ _ x (List.mem_of_getElem? hx) (by
          have h1 := List.length_filter_le P (l.take j)
          rw [List.length_take] at h1
          rw [List.length_append, List.length_map]
          omega) (by omega : B ≤ (wr.alloc (.cells (wtC x).toArray 82)).heap.size) hjv
        have HX := Lib.hid hx
        have HTK := Lib.hid htk
        have CF := Lib.hid cF
        have HJV := Lib.hid hjv
        have HRV := Lib.hid hrv
        have HVB := Lib.hid hvb
        have HKJ := Lib.hid hkj
        clear hx hAx htk cF hjv hrv hvb hkj hj hrow s4 s5 hal
        obtain ⟨⟨x0, x1, x2, x3, x4, x5⟩, x6⟩ := x
        simp only at c0 c1 c2 c3 c4 c5 c6
        go_wp2_with fail
        refine CF.out.mono ?_
        rintro e w2 ⟨rfl, hon, gb3, hj3⟩
        have hb2 := hon.below HK.out HJV.out (by omega)
        have hr2 := HRV.out.low hb2 hR
        have hv2 := (hon.2 wr.heap.size (by omega) (by have := HKJ.out.2.1; omega) (fun e => by have := HKJ.out.2.2 _ e.symm; omega)).trans HVB.out
        have hB2 : B ≤ w2.heap.size := by have := hb2.size; omega
        have hvl2 : wr.heap.size < w2.heap.size := by have := hb2.size; omega
        cases hP : P ⟨⟨x0, x1, x2, x3, x4, x5⟩, x6⟩ with
        | true =>
          rw [hP] at hj3
          have HST2 := Lib.hid (HS.out.drop HX.out hP)
          have HJ3 := Lib.hid (show J (acc ++ ((l.take (j + 1)).filter P).map (·.r)) gb3 w2 by
            rw [HTK.out, hP, if_pos rfl, List.map_append, ← List.append_assoc]; exact hj3)
          have HR2 := Lib.hid hr2
          clear hj3 hr2 hv2 hon hb2 hP CF
          go_wp2_with fail
          go_roundw
          case rel => exact ⟨n, j + 1, A, gb3, rfl, by go_num, HST2.out, HR2.out, hB2, HJ3.out⟩
          case measure => simp [intOf]; omega
        | false =>
          rw [hP] at hj3
          have HST2 := Lib.hid (HS.out.keep HX.out hP)
          have HJ3 := Lib.hid (show J (acc ++ ((l.take (j + 1)).filter P).map (·.r)) gb3 w2 by
            rw [HTK.out, hP, if_neg (by decide), List.append_nil]; exact hj3)
          have HR2 := Lib.hid hr2
          have hth := hr2.there (o := n * 7) (n := 7) (by omega)
          have HTH := Lib.hid hth
          obtain ⟨d0, d1, d2, d3, d4, d5, d6⟩ := wt_block hv2
          have hnl : (n : Int) < (l.length : Int) := by omega
          clear hj3 hr2 hv2 hon hb2 hP CF hth
          go_wp2_with (refine wpList_store_wt (o := ⟨none, _, _, _, _, _⟩) rfl _ _ rfl R n ⟨⟨x0, x1, x2, x3, x4, x5⟩, x6⟩ rfl rfl HTH.out ?_)
          go_roundw
          case rel => exact ⟨n + 1, j + 1, A.set n _, gb3, by go_num, by go_num, HST2.out, HR2.out.set (by omega) _, by rw [size_setCellsW]; exact hB2, HJS.out _ _ _ _ _ HJ3.out⟩
          case measure => simp [intOf]; omega
      · obtain rfl : j = l.length := by omega
        have hdone := HS.out.done
        have hlen := hrow.len
        have hcut := hrow.cut (n := n) (zerosW (l.length - n))
        rw [hdone.1] at hcut
        have hjI : ¬ (l.length : Int) < (l.length : Int) := by omega
        have hth := hrow.there (o := n * 7) (n := (l.length - n) * 7) (by omega)
        have hjs := HJS.out _ _ _ (n * 7) (zerosW (l.length - n)) hj
        rw [List.take_length] at hjs
        have hcl := fun ty c => run_clear_wt wr ty R (n * 7) (l.length - n) c (by omega) hth
        have hnc : ¬ cap = n := by omega
        have y1 : (0 : Int) ≤ (n : Int) := by omega
        have y2 : (n : Int) ≤ (l.length : Int) := by omega
        have y3 : (n : Int) ≤ (cap : Int) := by omega
        have HJ := Lib.hid hjs
        have HC := Lib.hid hcut
        have HD := Lib.hid hdone.2
        have HBS := Lib.hid (show B ≤ (wr.setCells R (n * 7) (zerosW (l.length - n))).heap.size by rw [size_setCellsW]; exact hBr)
        clear hjs hcut hdone hj hth hrow s4 s5 HJB HJS HS
        go_wp2_with fail
        go_ret
        exact ⟨by rw [HD.out]; rfl, HC.out, HBS.out, gb2, HJ.out⟩
end Go.Proofs.YtibhohpamnpkcaaGreatDoor
