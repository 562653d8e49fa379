/- fold.All. -/
import Derived.Test.YtakcfgmibijdnaaGreatDoorQueryWritesM2
import Derived.Test.YtakcfgmibijdnaaGreatDoorShelf
import Derived.Lib.IndexLaws
import Derived.Test.YtakcfgmibijdnaaGreatDoorQueryWritesM3
import Derived.Test.YtakcfgmibijdnaaGreatDoorQueryWritesM1

namespace Go.Proofs.YtakcfgmibijdnaaGreatDoor
open Go.RowKit

/-- Do all bytes of a text stand in another one? -/
def allB (s m : ByteArray) : Bool := (List.range s.size).all fun i => hasB m (byteAt s i)
theorem allB_no {s m : ByteArray} {i : Nat} (hi : i < s.size) (h : hasB m (byteAt s i) = false) : allB s m = false := by
  unfold allB; rw [List.all_eq_false]; exact ⟨i, by simpa using hi, by simpa using h⟩
theorem allB_yes {s m : ByteArray} (h : ∀ i, i < s.size → hasB m (byteAt s i) = true) : allB s m = true := by
  unfold allB; rw [List.all_eq_true]; intro i hi; exact h i (by simpa using hi)
theorem index_has (m : ByteArray) (c : UInt8) : (hasB m c = true ∧ 0 ≤ Lib.indexByte m.data.toList c) ∨ (hasB m c = false ∧ Lib.indexByte m.data.toList c < 0) := by
  have hl : m.data.toList.length = m.size := rfl
  have hge := Lib.indexByte_ge m.data.toList c
  by_cases h : Lib.indexByte m.data.toList c = -1
  · refine .inr ⟨hasB_no fun j hj e => ?_, by omega⟩
    have := Lib.indexByte_none h j
    rw [List.getElem?_eq_getElem (by omega)] at this
    apply this
    rw [← e]
    unfold byteAt
    rw [List.getD, List.getElem?_eq_getElem (by omega)]; rfl
  · obtain ⟨o, ho⟩ := Int.eq_ofNat_of_zero_le (show 0 ≤ Lib.indexByte m.data.toList c by omega)
    have h2 := (Lib.indexByte_some ho).1
    have hlt : o < m.data.toList.length := (List.getElem?_eq_some_iff.1 h2).1
    refine .inl ⟨hasB_yes (k := o) (by omega) ?_, by omega⟩
    unfold byteAt
    rw [List.getD, h2]; rfl

end Go.Proofs.YtakcfgmibijdnaaGreatDoor

/- fold.written: a number's digits of a base, at least so many. -/
namespace Go.Proofs.YtakcfgmibijdnaaGreatDoor
open Go.RowKit

/-- A number's digits, at least so many. -/
def writ (base n width : Nat) : List UInt8 := digs base (max (ndigs base 64 n) (max width 1)) n

theorem fig_at (i : Nat) (h : i < 16) : (⟨#[48, 49, 50, 51, 52, 53, 54, 55, 56, 57, 65, 66, 67, 68, 69, 70]⟩ : ByteArray)[i]'h = UInt8.ofNat (figN i) := by
  have : ∀ i : Fin 16, (⟨#[48, 49, 50, 51, 52, 53, 54, 55, 56, 57, 65, 66, 67, 68, 69, 70]⟩ : ByteArray)[i.1]'i.2 = UInt8.ofNat (figN i.1) := by decide
  exact this ⟨i, h⟩

theorem arr64 : Tryz.prog.arrayLen 271 = 64 := by kernel_rfl
theorem elem64 : Tryz.prog.elem 271 = 5 := by kernel_rfl
theorem slice64 (g j : Nat) (hj : 1 ≤ j) (hj2 : j ≤ 64) (w : World) : (Instr.sliceAt 271 (.pointer (some ⟨g, 0, none⟩)) (some (.int .i64 (64 - (j : Int)))) none none).run Tryz.prog w = .ok (.slice (some ⟨g, 64 - j, none⟩) j j) w := by
  have ht : Tryz.prog.underlying 271 = some (.array (Tryz.prog.arrayLen 271) (Tryz.prog.elem 271)) := by kernel_rfl
  have hs : (sizeOf 5).run Tryz.prog w = .ok 1 w := by kernel_rfl
  rw [run_sliceAt_array_l w _ _ ht _ _ (by omega) (by rw [arr64]; omega), elem64, hs, arr64]
  simp only [Result.andThen, slicedAt]
  have e : (64 - (j : Int)).toNat = 64 - j := by omega
  rw [e, if_neg (by omega), Addr.add_lit]
  have e2 : 64 - (64 - j) = j := by omega
  rw [e2]
  simp

theorem set_mid {α : Type} (z b : α) (r : Nat) (D : List α) : (List.replicate (r + 1) z ++ D).set r b = List.replicate r z ++ (b :: D) := by
  induction r with
  | zero => simp
  | succ r ih => rw [List.replicate_succ, List.cons_append, List.set_cons_succ, ih, List.replicate_succ, List.cons_append]

theorem writ_step {w : World} {g j base n m : Nat} (hB : BytesAt w g (List.replicate (64 - j) 0 ++ digs base j n)) (hj : j < 64) (hm : n / base ^ j = m) (b : UInt8) (hb : b = UInt8.ofNat (figN (m % base))) :
    BytesAt (w.setCell ⟨g, 64 - j - 1, none⟩ (.int .u8 (b.toNat : Int))) g (List.replicate (64 - (j + 1)) 0 ++ digs base (j + 1) n) := by
  have h := hB.store (k := 64 - j - 1) (by simp [digs_length]; omega) b
  have e : 64 - j = (64 - (j + 1)) + 1 := by omega
  have e2 : 64 - j - 1 = 64 - (j + 1) := by omega
  rw [digs_head, hm, ← hb, ← set_mid, ← e, ← e2]
  exact h

theorem writ_end {w : World} {g j base n : Nat} (hB : BytesAt w g (List.replicate (64 - j) 0 ++ digs base j n)) (hj : 1 ≤ j) (hj2 : j ≤ 64) :
    (∀ w' : World, (Instr.sliceAt 271 (.pointer (some ⟨g, 0, none⟩)) (some (.int .i64 (64 - (j : Int)))) none none).run Tryz.prog w' = .ok (.slice (some ⟨g, 64 - j, none⟩) j j) w') ∧
    (convert 56 9 (.slice (some ⟨g, 64 - j, none⟩) j j)).run Tryz.prog w = .ok (.string ⟨(digs base j n).toArray⟩) w :=
  ⟨slice64 g j hj hj2, run_back_at w _ _ 5 g (64 - j) j j (List.replicate (64 - j) 0) (digs base j n) (by simp) (digs_length _ _ _) Tryz.underlying56 Tryz.underlying5 Tryz.underlying9 hB⟩

set_option maxHeartbeats 1600000 in
set_option maxRecDepth 100000 in
theorem fold_written (n base : Nat) (width : Int) (w : World) (hn : n < 18446744073709551616) (hb : 2 ≤ base) (hb2 : base ≤ 16) (hw : width ≤ 16) (hw2 : -9223372036854775808 ≤ width) :
    Calls Tryz.prog 175 #[.int .u64 (n : Int), .int .u64 (base : Int), .int .i64 width] w fun e w' => e = .returned (.string ⟨(writ base n width.toNat).toArray⟩) ∧ Below w.heap.size w w' := by
  go_enter Tryz.func175, Tryz.ntmps175
  go_wp2_with fail
  have hB0 : BytesAt (w.alloc (.cells (List.replicate 64 (Value.int .u8 0)).toArray 271)) w.heap.size (List.replicate (64 - 0) 0 ++ digs base 0 n) :=
    ⟨271, [], 0, 0, .inl (Nat.le_refl _), heap_alloc_new w _⟩
  have hb0 : Below w.heap.size w (w.alloc (.cells (List.replicate 64 (Value.int .u8 0)).toArray 271)) := (Below.refl _ _).alloc (Nat.le_refl _) _
  have hJ0 : ndigs base 64 n ≤ 64 := ndigs_le _ _ _
  have hJp := ndigs_pos base hb 64 n
  have h64 : n < base ^ 64 := Nat.lt_of_lt_of_le hn (Nat.le_trans (by decide) (Nat.pow_le_pow_left hb 64))
  go_loopw [0, 8] (fun m a wr => ∃ j : Nat, j ≤ max (ndigs base 64 n) (max width.toNat 1) ∧ a = .int .i64 (64 - (j : Int)) ∧ m = .int .u64 ((n / base ^ j : Nat) : Int) ∧
      BytesAt wr w.heap.size (List.replicate (64 - j) 0 ++ digs base j n) ∧ Below w.heap.size w wr)
    (fun _ a _ => (intOf a).toNat)
  case atStart => exact ⟨0, Nat.zero_le _, rfl, by simp, hB0, hb0⟩
  case round =>
    obtain ⟨j, hj, rfl, rfl, hB, hbr⟩ := hrel
    have hp := hJp j h64
    generalize hm : n / base ^ j = m at *
    have HM := Lib.hid hm
    clear hm hJp hB0 hb0 h64
    have hml : m < 18446744073709551616 := by rw [← HM.out]; exact Nat.lt_of_le_of_lt (Nat.div_le_self _ _) hn
    have hr0 : (0 : Int) ≤ (m : Int) % (base : Int) := Int.emod_nonneg _ (by omega)
    have hr1 : (m : Int) % (base : Int) < 16 := Int.lt_of_lt_of_le (Int.emod_lt_of_pos _ (by omega)) (by omega)
    have hq0 : (0 : Int) ≤ (m : Int) / (base : Int) := Int.ediv_nonneg (by omega) (by omega)
    have hq1 : (m : Int) / (base : Int) ≤ (m : Int) := Int.ediv_le_self _ (by omega)
    by_cases h1 : 0 < m
    · have hj63 : j < 64 := by omega
      have hcell := hB.cell (k := 64 - j - 1) (by simp [digs_length]; omega)
      have hfr := hB.frozen (k := 64 - j - 1) (by simp [digs_length]; omega)
      generalize hv : (List.replicate (64 - j) 0 ++ digs base j n).getD (64 - j - 1) 0 = v0 at hcell
      clear hv
      have hst := fun b hb => writ_step hB hj63 HM.out b hb
      have HST := Lib.hid hst
      clear hst hB
      go_wp2_with fail
      go_roundw
      case rel => exact ⟨j + 1, by omega, by go_num, by rw [Nat.pow_succ, ← Nat.div_div_eq_div_mul, HM.out]; rfl, HST.out _ (fig_at _ (by omega)), hbr.setCell (Nat.le_refl _) _⟩
      case measure => simp [intOf]; omega
    · obtain rfl : m = 0 := by omega
      by_cases hw1 : width < 1
      · by_cases hj1 : j < 1
        · have hj63 : j < 64 := by omega
          have hcell := hB.cell (k := 64 - j - 1) (by simp [digs_length]; omega)
          have hfr := hB.frozen (k := 64 - j - 1) (by simp [digs_length]; omega)
          generalize hv : (List.replicate (64 - j) 0 ++ digs base j n).getD (64 - j - 1) 0 = v0 at hcell
          clear hv
          have hst := fun b hb => writ_step hB hj63 HM.out b hb
          have HST := Lib.hid hst
          clear hst hB
          go_wp2_with fail
          go_roundw
          case rel => exact ⟨j + 1, by omega, by go_num, by rw [Nat.pow_succ, ← Nat.div_div_eq_div_mul, HM.out]; simp, HST.out _ (by simp [figN]; rfl), hbr.setCell (Nat.le_refl _) _⟩
          case measure => simp [intOf]; omega
        · obtain ⟨hsl, hcv⟩ := writ_end hB (by omega : 1 ≤ j) (by omega)
          have hJ : j = max (ndigs base 64 n) (max width.toNat 1) := by omega
          have HJ := Lib.hid hJ
          clear hJ
          go_wp2_with fail
          go_ret
          exact ⟨ret_str (by rw [writ, ← HJ.out]), hbr⟩
      · by_cases hj1 : (j : Int) < width
        · have hj63 : j < 64 := by omega
          have hcell := hB.cell (k := 64 - j - 1) (by simp [digs_length]; omega)
          have hfr := hB.frozen (k := 64 - j - 1) (by simp [digs_length]; omega)
          generalize hv : (List.replicate (64 - j) 0 ++ digs base j n).getD (64 - j - 1) 0 = v0 at hcell
          clear hv
          have hst := fun b hb => writ_step hB hj63 HM.out b hb
          have HST := Lib.hid hst
          clear hst hB
          go_wp2_with fail
          go_roundw
          case rel => exact ⟨j + 1, by omega, by go_num, by rw [Nat.pow_succ, ← Nat.div_div_eq_div_mul, HM.out]; simp, HST.out _ (by simp [figN]; rfl), hbr.setCell (Nat.le_refl _) _⟩
          case measure => simp [intOf]; omega
        · obtain ⟨hsl, hcv⟩ := writ_end hB (by omega : 1 ≤ j) (by omega)
          have hJ : j = max (ndigs base 64 n) (max width.toNat 1) := by omega
          have HJ := Lib.hid hJ
          clear hJ
          go_wp2_with fail
          go_ret
          exact ⟨ret_str (by rw [writ, ← HJ.out]), hbr⟩

theorem fold_HexDigits (n : Nat) (width : Int) (w : World) (hn : n < 18446744073709551616) (hw2 : -9223372036854775808 ≤ width) :
    Calls Tryz.prog 150 #[.int .u64 (n : Int), .int .i64 width] w fun e w' => e = .returned (.string ⟨(writ 16 n (min width 16).toNat).toArray⟩) ∧ Below w.heap.size w w' := by
  have h1 : min width 16 ≤ 9223372036854775807 := by omega
  have h2 : -9223372036854775808 ≤ min width 16 := by omega
  go_enter Tryz.func150, Tryz.ntmps150
  go_wp2_with fail
  refine (fold_written n 16 (min width 16) _ hn (by omega) (by omega) (by omega) (by omega)).mono ?_
  rintro e w1 ⟨rfl, hb1⟩
  go_wp2_with fail
  go_ret
  exact ⟨rfl, hb1⟩
end Go.Proofs.YtakcfgmibijdnaaGreatDoor

/- percent.Right, Decode, Normal, Plain, written. -/
namespace Go.Proofs.YtakcfgmibijdnaaGreatDoor
open Go.RowKit

def RightPost (s : ByteArray) (w : World) (e : Ending) (w' : World) : Prop := Below w.heap.size w w' ∧ (((told s).2 = none ∧ e = .returned .nilIface) ∨ (∃ i, (told s).2 = some i ∧ ∃ v, e = .returned v ∧ IsFault w' v 11 i))
/-- A variable in block b holds bytes of the call's own, from B on. -/
def VarB (w : World) (B b : Nat) (l : List UInt8) : Prop := b < B ∧ ∃ v, w.heap[b]? = some (.cells #[v] 56 (0, 0)) ∧ OwnB w B v l
theorem VarB.below {w w' : World} {B b : Nat} {l : List UInt8} (h : VarB w B b l) (hb : Below w.heap.size w w') : VarB w' B b l := by
  obtain ⟨h1, v, h2, h3⟩ := h
  exact ⟨h1, v, (hb.block b (lt_of_block h2)).trans h2, h3.below hb⟩
theorem OwnB.lt {w : World} {base : Nat} {v : Value} {l : List UInt8} (h : OwnB w base v l) (k : Nat) (hk : v.ownBlock = some k) : base ≤ k ∧ k < w.heap.size := World.ownsRow.lt h k hk
theorem OwnB.setOther {w : World} {B b : Nat} {v : Value} {l : List UInt8} (h : OwnB w B v l) (hb : b < B) (j : Nat) (u : Value) : OwnB (w.setCell ⟨b, j, none⟩ u) B v l := by
  unfold OwnB
  refine World.ownsRow.kept (row := some b) h ⟨rfl, rfl, rfl, by simp [World.setCell], fun k _ hk => Below.heap_setCell _ _ _ _ (fun e => hk (by simp [e]))⟩ (.inr fun e => ?_)
  have := (h.lt b e).1
  omega
set_option maxHeartbeats 1600000 in
theorem decode_fn (B b : Nat) (l : List UInt8) (c : UInt8) (esc : Bool) (w : World) (h : VarB w B b l) (hl : l.length ≤ 268435456) (hB : B ≤ w.heap.size) :
    Calls Tryz.prog 180 #[.int .u8 (c.toNat : Int), .bool esc, .pointer (some ⟨b, 0, none⟩)] w fun e w' => e = .returned (.tuple #[]) ∧ VarB w' B b (l ++ [c]) ∧ ButB B b w w' := by
  obtain ⟨h1, v, h2, h3⟩ := h
  have hlt := lt_of_block h2
  have c0 : w.cell? ⟨b, 0, none⟩ = some v := by rw [cell_of_row w b 0 _ _ _ h2]; rfl
  go_enter Tryz.func180, Tryz.ntmps180
  have hbf : Below w.heap.size w (w.alloc (.cells #[byteV c] 5)) := (Below.refl _ _).alloc (Nat.le_refl _) _
  have hown2 := h3.below hbf
  have hy : BytesSl (w.alloc (.cells #[byteV c] 5)) (.slice (some ⟨w.heap.size, 0, none⟩) 1 1) ⟨#[c]⟩ := BytesSl.lit w [c] _ 1 rfl rfl (by simp)
  go_wp2_with (at_builtin; refine wpList_app_bytes rfl _ _ rfl B _ _ rfl hown2 _ ⟨#[c]⟩ rfl hy (by show l.length + 1 ≤ _; omega) (by simp; omega) ?_)
  intro v3 w3 hown3 hgr
  have hne : v.ownBlock ≠ some b := fun e => by have := (h3.lt b e).1; omega
  have hb3 : w3.heap[b]? = some (.cells #[v] 56 (0, 0)) := by
    have hbf' : Below w.heap.size w (w.alloc (.cells #[.int .u8 (c.toNat : Int)] 5)) := hbf
    rw [hgr.block b (by simp; omega) (fun e => hne e.symm), hbf'.block b hlt]
    exact h2
  have d0 : w3.cell? ⟨b, 0, none⟩ = some v := by rw [cell_of_row w3 b 0 _ _ _ hb3]; rfl
  have f0 : w3.frozen? ⟨b, 0, none⟩ = false := by simp [World.frozen?, hb3]
  have hbe : ButB B b w (w3.setCell ⟨b, 0, none⟩ v3) := (ButB.of_below ((hbf.mono hB).grown hgr (by simp; omega) (fun k hk => (h3.lt k hk).1))).setCell 0 v3
  have hown4 := hown3.setOther h1 0 v3
  have hcell : (w3.setCell ⟨b, 0, none⟩ v3).heap[b]? = some (.cells #[v3] 56 (0, 0)) := by simp [World.setCell, Array.getElem?_modify, hb3]
  obtain ⟨a3, n3, c3, e3⟩ : ∃ a n c, v3 = .slice a n c := by
    rcases hown3.shape with ⟨_, e⟩ | ⟨g, cap, e, _⟩
    · exact ⟨_, _, _, e⟩
    · exact ⟨_, _, _, e⟩
  subst e3
  clear hown3 hgr hown2 hy hbf
  go_wp2_with fail
  go_end0
  exact ⟨rfl, ⟨h1, _, hcell, hown4⟩, hbe⟩

def bytesT (s : ByteArray) : List UInt8 := (told s).1.map (·.1)
def DecodePost (s : ByteArray) (w : World) (e : Ending) (w' : World) : Prop := Below w.heap.size w w' ∧ (((told s).2 = none ∧ ∃ v, e = .returned (.tuple #[v, .nilIface]) ∧ OwnB w' w.heap.size v (bytesT s)) ∨ (∃ i, (told s).2 = some i ∧ ∃ v, e = .returned (.tuple #[.slice none 0 0, v]) ∧ IsFault w' v 11 i))
set_option maxHeartbeats 1600000 in
theorem percent_Decode (s : ByteArray) (w : World) (hs : s.size ≤ 16777216) : Calls Tryz.prog 156 #[.string s] w (DecodePost s w) := by
  have hnew : (w.alloc (.cells #[.slice none 0 0] 56)).heap[w.heap.size]? = some (.cells #[.slice none 0 0] 56 (0, 0)) := heap_alloc_new w _
  have hE := each_Decode w.heap.size s hs (fun L wr => VarB wr (w.heap.size + 1) w.heap.size (L.map (·.1)) ∧ ButB (w.heap.size + 1) w.heap.size (w.alloc (.cells #[.slice none 0 0] 56)) wr)
    (fun _ _ _ h hb => ⟨h.1.below hb, h.2.trans (ButB.of_below (hb.mono (by have := h.2.size; simpa using this)))⟩)
    (fun L c esc wr h hL => (decode_fn _ _ _ c esc wr h.1 (by simp; omega) (by have := h.2.size; simpa using this)).mono fun _ _ ⟨a, b, d⟩ => ⟨a, by simpa using b, h.2.trans d⟩)
    (w.alloc (.cells #[.slice none 0 0] 56)) ⟨⟨by omega, _, hnew, OwnB.nil _ _⟩, ButB.refl _ _ _⟩
  have HE := Lib.hid hE
  clear hE hnew
  go_enter Tryz.func156, Tryz.ntmps156
  go_wp2_with fail
  refine HE.out.mono ?_
  rintro e w1 ⟨⟨hv, hbu⟩, h⟩
  obtain ⟨_, v, h2, h3⟩ := hv
  have hb : Below w.heap.size w w1 := ((Below.refl w.heap.size w).alloc (Nat.le_refl _) _).trans (hbu.below (Nat.le_refl _) (by omega))
  have c0 : w1.cell? ⟨w.heap.size, 0, none⟩ = some v := by rw [cell_of_row w1 w.heap.size 0 _ _ _ h2]; rfl
  have hown : OwnB w1 w.heap.size v (bytesT s) := h3.base' (by omega)
  have HO := Lib.hid hown
  clear h2 h3 hbu hown
  rcases h with ⟨hn, rfl⟩ | ⟨i, hi, u, rfl, hu⟩
  · have HN := Lib.hid hn
    clear hn
    go_wp2_with fail
    go_ret2
    exact ⟨hb, .inl ⟨HN.out, v, rfl, HO.out⟩⟩
  · obtain ⟨q, rfl⟩ := hu.ne_nil
    have HN := Lib.hid hi
    clear hi
    go_wp2_with fail
    go_ret2
    exact ⟨hb, .inr ⟨i, HN.out, _, rfl, hu⟩⟩

def tails : ByteArray := ⟨#[45, 46, 95, 126]⟩
theorem tails_has (c : UInt8) : hasB tails c = decide (c.toNat = 45 ∨ c.toNat = 46 ∨ c.toNat = 95 ∨ c.toNat = 126) := by
  have : ∀ n : Fin 256, hasB tails (UInt8.ofNat n.1) = decide ((UInt8.ofNat n.1).toNat = 45 ∨ (UInt8.ofNat n.1).toNat = 46 ∨ (UInt8.ofNat n.1).toNat = 95 ∨ (UInt8.ofNat n.1).toNat = 126) := by decide +kernel
  have h := this ⟨c.toNat, c.toNat_lt⟩
  simpa using h
set_option maxHeartbeats 1600000 in
theorem percent_Plain (c : UInt8) (w : World) : Calls Tryz.prog 106 #[.int .u8 (c.toNat : Int)] w fun e w' => e = .returned (.bool (unres c)) ∧ w = w' := by
  have hd : unres c = (decide (97 ≤ c.toNat ∧ c.toNat ≤ 122) || (decide (65 ≤ c.toNat ∧ c.toNat ≤ 90) || (decide (48 ≤ c.toNat ∧ c.toNat ≤ 57) || hasB tails c))) := by rw [tails_has]; rfl
  have hix := index_has tails c
  have hcall := fun W => Tryz.strings_IndexByte tails (c.toNat : Int) W
  have hcc : (((c.toNat : Int)).toNat.toUInt8) = c := by simp
  rw [hcc] at hcall
  have HC := Lib.hid hcall
  clear hcall hcc
  have hb := c.toNat_lt
  generalize Lib.indexByte tails.data.toList c = ix at *
  have HD := Lib.hid hd
  have HIX := Lib.hid hix
  clear hd hix
  by_cases h1 : 97 ≤ c.toNat ∧ c.toNat ≤ 122
  · obtain ⟨a1, a2⟩ := h1
    have HV := Lib.hid (show unres c = true by rw [HD.out, decide_eq_true ⟨a1, a2⟩]; rfl)
    go_enter Tryz.func106, Tryz.ntmps106
    go_wp2_with fail
    go_ret
    exact ⟨ret_bool HV.out.symm, rfl⟩
  · by_cases h2 : 65 ≤ c.toNat ∧ c.toNat ≤ 90
    · obtain ⟨a1, a2⟩ := h2
      have HV := Lib.hid (show unres c = true by rw [HD.out, decide_eq_true (show 65 ≤ c.toNat ∧ c.toNat ≤ 90 from ⟨a1, a2⟩)]; simp)
      clear h1
      go_enter Tryz.func106, Tryz.ntmps106
      go_wp2_with fail
      go_ret
      exact ⟨ret_bool HV.out.symm, rfl⟩
    · by_cases h3 : 48 ≤ c.toNat ∧ c.toNat ≤ 57
      · obtain ⟨a1, a2⟩ := h3
        have HV := Lib.hid (show unres c = true by rw [HD.out, decide_eq_true (show 48 ≤ c.toNat ∧ c.toNat ≤ 57 from ⟨a1, a2⟩)]; simp)
        clear h1 h2
        go_enter Tryz.func106, Tryz.ntmps106
        go_wp2_with fail
        go_ret
        exact ⟨ret_bool HV.out.symm, rfl⟩
      · have hv : unres c = hasB tails c := by rw [HD.out, decide_eq_false h1, decide_eq_false h2, decide_eq_false h3]; rfl
        have HV := Lib.hid hv
        clear hv
        have hcs : c.toNat < 48 ∨ (57 < c.toNat ∧ c.toNat < 65) ∨ (90 < c.toNat ∧ c.toNat < 97) ∨ 122 < c.toNat := by omega
        clear h1 h2 h3
        rcases HIX.out with ⟨k1, k2⟩ | ⟨k1, k2⟩
        · have HK := Lib.hid (HV.out.trans k1)
          clear k1
          rcases hcs with h | ⟨h, h'⟩ | ⟨h, h'⟩ | h
          all_goals
            go_enter Tryz.func106, Tryz.ntmps106
            go_wp2_with fail
            refine (HC.out _).mono ?_
            rintro e w2 ⟨rfl, rfl⟩
            go_wp2_with fail
            go_ret
            exact ⟨ret_bool (by rw [HK.out] <;> simp [k2]), rfl⟩
        · have HK := Lib.hid (HV.out.trans k1)
          clear k1
          rcases hcs with h | ⟨h, h'⟩ | ⟨h, h'⟩ | h
          all_goals
            go_enter Tryz.func106, Tryz.ntmps106
            go_wp2_with fail
            refine (HC.out _).mono ?_
            rintro e w2 ⟨rfl, rfl⟩
            go_wp2_with fail
            go_ret
            exact ⟨ret_bool (by rw [HK.out] <;> simp [k2]), rfl⟩

theorem writ2 (n : Nat) (h : n < 256) : writ 16 n 2 = digs 16 2 n := by
  have : ∀ n : Fin 256, writ 16 n.1 2 = digs 16 2 n.1 := by decide +kernel
  exact this ⟨n, h⟩
def percS : ByteArray := ⟨#[37]⟩
theorem perc_app (l : List UInt8) : (⟨#[37]⟩ : ByteArray) ++ ⟨l.toArray⟩ = ⟨(37 :: l).toArray⟩ := by
  apply ByteArray.ext
  apply Array.ext'
  rw [ByteArray.data_append]
  simp
theorem percent_written (c : UInt8) (w : World) : Calls Tryz.prog 110 #[.int .u8 (c.toNat : Int)] w fun e w' => e = .returned (.string ⟨(escW c).toArray⟩) ∧ Below w.heap.size w w' := by
  have hb := c.toNat_lt
  have hw := writ2 c.toNat hb
  have hC := fun W => fold_HexDigits c.toNat 2 W (by omega) (by omega)
  rw [show (min (2 : Int) 16).toNat = 2 from rfl, hw] at hC
  have HC := Lib.hid hC
  have hfin := perc_app (digs 16 2 c.toNat)
  have HF := Lib.hid hfin
  clear hC hw hfin
  go_enter Tryz.func110, Tryz.ntmps110
  go_wp2_with fail
  refine (HC.out _).mono ?_
  rintro e w2 ⟨rfl, hb2⟩
  go_wp2_with fail
  go_ret
  exact ⟨ret_str HF.out, hb2⟩

theorem normC_yes {c : UInt8} (h : unres c = false) : normC (c, true) = escW c := by unfold normC; rw [if_pos ⟨rfl, h⟩]
theorem normC_no {c : UInt8} {esc : Bool} (h : esc = false ∨ unres c = true) : normC (c, esc) = [c] := by
  unfold normC
  rw [if_neg]
  rintro ⟨h1, h2⟩
  simp only at h1 h2
  rcases h with h | h
  · rw [h1] at h; cases h
  · rw [h2] at h; cases h
theorem escW_len (c : UInt8) : (escW c).length = 3 := by unfold escW; simp [digs_length]
theorem normL_snoc (L : List (UInt8 × Bool)) (x : UInt8 × Bool) : normL (L ++ [x]) = normL L ++ normC x := by unfold normL; rw [List.flatMap_append]; simp
theorem normL_len (L : List (UInt8 × Bool)) : (normL L).length ≤ 3 * L.length := by
  induction L with
  | nil => simp [normL]
  | cons x L ih =>
    unfold normL at ih ⊢
    rw [List.flatMap_cons, List.length_append, List.length_cons]
    have : (normC x).length ≤ 3 := by
      unfold normC
      split
      · rw [escW_len]; exact Nat.le_refl _
      · simp
    omega

def normS (s : ByteArray) : ByteArray := ⟨(normL (told s).1).toArray⟩
def NormalPost (s : ByteArray) (w : World) (e : Ending) (w' : World) : Prop := Below w.heap.size w w' ∧ (((told s).2 = none ∧ e = .returned (.tuple #[.string (normS s), .nilIface])) ∨ (∃ i, (told s).2 = some i ∧ ∃ v, e = .returned (.tuple #[.string ⟨#[]⟩, v]) ∧ IsFault w' v 11 i))
end Go.Proofs.YtakcfgmibijdnaaGreatDoor

/- Texts out of lists of bytes. -/
namespace Go.Proofs.YtakcfgmibijdnaaGreatDoor
open Go.RowKit

def ofL (l : List UInt8) : ByteArray := ⟨l.toArray⟩
theorem ofL_app (a b : List UInt8) : ofL a ++ ofL b = ofL (a ++ b) := by
  unfold ofL
  apply ByteArray.ext
  apply Array.ext'
  rw [ByteArray.data_append]
  simp
theorem ofL_list (s : ByteArray) : ofL s.data.toList = s := by unfold ofL; rfl
theorem extract_one {s : ByteArray} {i : Nat} (h : i < s.size) : s.extract i (i + 1) = ofL [byteAt s i] := by
  apply ByteArray.ext
  apply Array.ext'
  rw [Lib.extract_data]
  have hl : s.data.toList.length = s.size := rfl
  have : s.data.toList.drop i = s.data.toList[i]'(by omega) :: s.data.toList.drop (i + 1) := List.drop_eq_getElem_cons (by omega)
  rw [this]
  unfold byteAt ofL
  simp [List.getD]
  rw [Array.getElem?_eq_getElem (show i < s.data.size from h)]
  rfl
theorem byte_string (c : UInt8) (w : World) : (convert 56 9 (.slice (some ⟨w.heap.size, 0, none⟩) 1 1)).run Tryz.prog (w.alloc (.cells #[.int .u8 (c.toNat : Int)] 5)) = .ok (.string ⟨#[c]⟩) (w.alloc (.cells #[.int .u8 (c.toNat : Int)] 5)) := by
  have hB : BytesAt (w.alloc (.cells #[.int .u8 (c.toNat : Int)] 5)) w.heap.size [c] := ⟨5, [], 0, 0, .inl (Nat.le_refl _), heap_alloc_new w _⟩
  exact run_back (P := Tryz.prog) _ 56 9 5 w.heap.size 1 [c] Tryz.underlying56 Tryz.underlying5 Tryz.underlying9 hB
theorem ofL_size (l : List UInt8) : (ofL l).size = l.length := by
  show l.toArray.size = _
  simp
end Go.Proofs.YtakcfgmibijdnaaGreatDoor

/- Plain facts on rows of bytes. -/
namespace Go.Proofs.YtakcfgmibijdnaaGreatDoor

theorem ba_ext {a b : ByteArray} (h : a.data.toList = b.data.toList) : a = b := by
  cases a; cases b; simp only [ByteArray.mk.injEq]; exact Array.toList_inj.1 h

theorem data_append (a b : ByteArray) : (a ++ b).data.toList = a.data.toList ++ b.data.toList := by
  rw [ByteArray.data_append]; exact Array.toList_append

end Go.Proofs.YtakcfgmibijdnaaGreatDoor
