/- strings.Builder beside a row of the call's own that is kept: WriteByte, Len, String. -/
import Derived.Test.YtakcfgmibijdnaaPunyPlainLM3
import Derived.Maps.AppendAt
import Derived.Lib.RuneBytes
import Derived.Test.YtakcfgmibijdnaaPunyPlainLM2
import Derived.Deep.AppendSrc
import Derived.Deep.Upon

namespace Go.Proofs.Ytakcfgmibijdnaa
open Go.RowKit

/-- A builder in block b, whose bytes lie in a row of the call's own, from B on, that isn't block G. -/
def BldG (w : World) (B b G : Nat) (l : List UInt8) : Prop :=
  b < B ∧ G ≠ b ∧ G < w.heap.size ∧ ∃ p v, (p = .pointer none ∨ p = .pointer (some ⟨b, 0, none⟩)) ∧ w.heap[b]? = some (.cells #[p, v] 38 (0, 0)) ∧ w.ownsRow B 5 1 v l.length (Lib.byteCells l) ∧ v.ownBlock ≠ some G
def ButG (B b G : Nat) (w w' : World) : Prop := ButB B b w w' ∧ w'.heap[G]? = w.heap[G]?
theorem ButG.refl (B b G : Nat) (w : World) : ButG B b G w w := ⟨ButB.refl _ _ _, rfl⟩
theorem ButG.trans {B b G : Nat} {w w1 w2 : World} (h : ButG B b G w w1) (k : ButG B b G w1 w2) : ButG B b G w w2 := ⟨h.1.trans k.1, k.2.trans h.2⟩
theorem Bld.guard {w w' : World} {B b G : Nat} {l : List UInt8} (h : Bld w B b l) (hb : Below w.heap.size w w') (h1 : w.heap.size ≤ G) (h2 : G < w'.heap.size) : BldG w' B b G l := by
  have hlt := h.lt
  obtain ⟨h0, p, v, hp, h3, h4⟩ := h
  refine ⟨h0, by omega, h2, p, v, hp, (hb.block b hlt).trans h3, ownsRow_below h4 hb, fun e => ?_⟩
  have := (h4.lt G e).2
  omega
theorem BldG.bld {w : World} {B b G : Nat} {l : List UInt8} (h : BldG w B b G l) : Bld w B b l := by
  obtain ⟨h0, _, _, p, v, hp, h3, h4, _⟩ := h
  exact ⟨h0, p, v, hp, h3, h4⟩
theorem BldG.grown {w w' : World} {B b G : Nat} {l : List UInt8} (h : BldG w B b G l) (hg : w.grownBy w' (some G)) : BldG w' B b G l := by
  obtain ⟨h0, h1, h2, p, v, hp, h3, h4, h5⟩ := h
  exact ⟨h0, h1, Nat.lt_of_lt_of_le h2 hg.size, p, v, hp, (hg.block b (lt_of_block h3) (fun e => h1 (by injection e with e; exact e.symm))).trans h3, h4.kept hg (.inr h5), h5⟩
theorem BldG.below {w w' : World} {B b G : Nat} {l : List UInt8} (h : BldG w B b G l) (hb : Below w.heap.size w w') : BldG w' B b G l := h.grown (below_grownBy hb _)
set_option maxHeartbeats 1000000 in
theorem bldG_check (B b G : Nat) (l : List UInt8) (w : World) (h : BldG w B b G l) :
    Calls Try.prog 24 #[.pointer (some ⟨b, 0, none⟩)] w fun e w' => e = .returned (.tuple #[]) ∧ ButG B b G w w' ∧ ∃ v, w'.heap[b]? = some (.cells #[.pointer (some ⟨b, 0, none⟩), v] 38 (0, 0)) ∧ w'.ownsRow B 5 1 v l.length (Lib.byteCells l) ∧ v.ownBlock ≠ some G := by
  obtain ⟨h1, hG, _, p, v, h2, h3, h4, h5⟩ := h
  have c0 : w.cell? ⟨b, 0, none⟩ = some p := by rw [cell_of_row w b 0 _ _ _ h3]; rfl
  rcases h2 with rfl | rfl
  · refine (bld_check_fresh b w c0 (by simp [World.shape?, h3]) (Lib.frozen_of_heap h3 0)).mono ?_
    rintro e w' ⟨rfl, rfl⟩
    refine ⟨rfl, ⟨(ButB.refl B b w).setCell 0 _, Below.heap_setCell _ _ _ _ hG⟩, v, by simp [World.setCell, Array.getElem?_modify, h3], ?_, h5⟩
    refine h4.kept (row := some b) ⟨rfl, rfl, rfl, by simp [World.setCell], fun k _ hk => Below.heap_setCell _ _ _ _ (fun e => hk (by simp [e]))⟩ (.inr fun e => ?_)
    have := (h4.lt b e).1
    omega
  · refine (bld_check_used b w c0).mono ?_
    rintro e w' ⟨rfl, rfl⟩
    exact ⟨rfl, ButG.refl _ _ _ _, v, h3, h4, h5⟩
theorem bldG_put {w : World} {B b G : Nat} {p v : Value} {n : Nat} {xs : List Value} {l : List UInt8} (hb : b < B) (hG : G ≠ b) (hGw : G < w.heap.size) (hp : p = .pointer (some ⟨b, 0, none⟩)) {u : Value} (h3 : w.heap[b]? = some (.cells #[p, u] 38 (0, 0))) (h4 : w.ownsRow B 5 1 v n xs) (hn : n = l.length) (hx : xs = Lib.byteCells l) (h5 : v.ownBlock ≠ some G) :
    BldG (w.setCell ⟨b, 1, none⟩ v) B b G l := by
  obtain ⟨_, p', v', hp', k3, k4⟩ := bld_put hb hp h3 h4 hn hx
  have e : (w.setCell ⟨b, 1, none⟩ v).heap[b]? = some (.cells #[p, v] 38 (0, 0)) := by simp [World.setCell, Array.getElem?_modify, h3]
  rw [e] at k3
  injection k3 with k3
  injection k3 with k3
  injection k3 with k3
  injection k3 with e1 k3
  injection k3 with e2 _
  subst e1 e2
  exact ⟨hb, hG, by simpa [World.setCell] using hGw, p, v, hp', e, k4, h5⟩
set_option maxHeartbeats 2000000 in
set_option maxRecDepth 100000 in
theorem bldG_WriteByte (B b G : Nat) (l : List UInt8) (c : UInt8) (w : World) (h : BldG w B b G l) (hlen : l.length ≤ 1073741824) (hBw : B ≤ w.heap.size) :
    Calls Try.prog 11 #[.pointer (some ⟨b, 0, none⟩), .int .u8 (c.toNat : Int)] w fun e w' => e = .returned .nilIface ∧ BldG w' B b G (l ++ [c]) ∧ ButG B b G w w' := by
  obtain ⟨i0, hi, hz0, hz1, hz2⟩ := info_parts bld_byte
  have hbB := h.1
  have hG := h.2.1
  have hGw := h.2.2.1
  go_enter Try.func11, Try.ntmps11
  go_wp2_with fail
  refine (bldG_check B b G l _ h).mono ?_
  rintro e w1 ⟨rfl, hb1, v, hbk, hown, hvG⟩
  have c0 : w1.cell? ⟨b, 0, none⟩ = some (.pointer (some ⟨b, 0, none⟩)) := by rw [Lib.cell_of_heap hbk]; rfl
  have c1 : w1.cell? ⟨b, 1, none⟩ = some v := by rw [Lib.cell_of_heap hbk]; rfl
  have hsz1 := hb1.1.size
  go_wp2_with (at_builtin; refine wpList_append_own_at _ rfl _ _ 22 rfl B 5 i0 (.int .u8 0) 1 1 Try.underlying22 hi hz0 hz1 hz2 rfl (by decide) _ _ _ rfl (hown.alloc _) ⟨w1.heap.size, 0, none⟩ 1 1 [.int .u8 (c.toNat : Int)] rfl rfl ?c1 ?c2 ?c3 ?c4 ?c5 ?_)
  case c1 =>
    intro j u hj
    match j, hj with
    | 0, hj => simp at hj; subst hj; simp [Addr.add]
  case c2 => intro u hu; simp at hu; subst hu; rfl
  case c3 => unfold maxLen; omega
  case c4 => omega
  case c5 => simp; omega
  intro v' w2 hown' hgrow _ hat
  have hlt : b < w1.heap.size := lt_of_block hbk
  have hne : v.ownBlock ≠ some b := fun e => by have := (hown.lt b e).1; omega
  have hv' : v'.ownBlock ≠ some G := fun e => by
    rcases hat with hat | hat
    · exact hvG (hat ▸ e)
    · rw [hat] at e; injection e with e; first | omega | (simp at e; omega)
  have hG2 : w2.heap[G]? = w1.heap[G]? := by
    rw [hgrow.block G (by simp; omega) (fun e => hvG e.symm), Lib.alloc_old w1 _ G (by omega)]
  have hb2 : w2.heap[b]? = some (.cells #[.pointer (some ⟨b, 0, none⟩), v] 38 (0, 0)) := by
    rw [hgrow.block b (by simp; omega) (fun e => hne e.symm), Lib.alloc_old w1 _ b hlt]
    exact hbk
  have hs2 := hgrow.size
  have d0 : w2.cell? ⟨b, 0, none⟩ = some (.pointer (some ⟨b, 0, none⟩)) := by rw [Lib.cell_of_heap hb2]; rfl
  have d1 : w2.cell? ⟨b, 1, none⟩ = some v := by rw [Lib.cell_of_heap hb2]; rfl
  have f1 : w2.frozen? ⟨b, 1, none⟩ = false := Lib.frozen_of_heap hb2 1
  obtain ⟨g, cap, rfl⟩ : ∃ g cap, v' = .slice (some ⟨g, 0, none⟩) (l.length + 1) cap := by
    rcases hown'.2 with ⟨_, h0⟩ | ⟨g, cap, cur, hv, _⟩
    · omega
    · exact ⟨g, cap, hv⟩
  have hb12 : Below B w1 w2 := ((Below.refl B w1).alloc (by omega) _).grown hgrow (by simp; omega) (fun k hk => (hown.lt k hk).1)
  have hbe := ((hb1.1.trans (ButB.of_below hb12)).setCell 1 (.slice (some ⟨g, 0, none⟩) (l.length + 1) cap))
  have hgE : (w2.setCell ⟨b, 1, none⟩ (.slice (some ⟨g, 0, none⟩) (l.length + 1) cap)).heap[G]? = w.heap[G]? := (Below.heap_setCell _ _ _ _ hG).trans (hG2.trans hb1.2)
  have hput := bldG_put (l := l ++ [c]) hbB hG (by simp at hs2; omega) rfl hb2 hown' (by simp) (by unfold Lib.byteCells; simp) hv'
  clear hb12 hown' hown hgrow hb1 hG2 hv' hvG hs2 hat
  go_wp2
  go_ret
  exact ⟨rfl, hput, hbe, hgE⟩
set_option maxHeartbeats 1000000 in
theorem bld_Len (B b : Nat) (l : List UInt8) (w : World) (h : Bld w B b l) :
    Calls Try.prog 12 #[.pointer (some ⟨b, 0, none⟩)] w fun e w' => e = .returned (.int .i64 (l.length : Int)) ∧ w' = w := by
  obtain ⟨_, p, v, _, h3, h4⟩ := h
  have c1 : w.cell? ⟨b, 1, none⟩ = some v := by rw [Lib.cell_of_heap h3]; rfl
  obtain ⟨a, c, rfl⟩ : ∃ a c, v = .slice a l.length c := by
    rcases h4.2 with ⟨e0, e1⟩ | ⟨g, cap, cur, hv, _⟩
    · exact ⟨none, 0, by rw [e0, e1]⟩
    · exact ⟨_, _, hv⟩
  clear h3 h4
  go_enter Try.func12, Try.ntmps12
  go_wp2_with fail
  go_ret
  exact ⟨rfl, rfl⟩
end Go.Proofs.Ytakcfgmibijdnaa

/- utf.Half. -/
namespace Go.Proofs.Ytakcfgmibijdnaa
open Go.RowKit

set_option maxHeartbeats 800000 in
theorem utf_Half (n : Int) (w : World) : Calls Try.prog 48 #[.int .i64 n] w fun e w' => e = .returned (.int .i64 (halfZ n)) ∧ w = w' := by
  have hc : n < 55296 ∨ (55296 ≤ n ∧ n < 56320) ∨ (56320 ≤ n ∧ n < 57344) ∨ 57344 ≤ n := by omega
  have h0 : n < 55296 ∨ 57344 ≤ n → halfZ n = 0 := by intro h; unfold halfZ; rw [if_neg (by omega), if_neg (by omega)]
  have h1 : 55296 ≤ n ∧ n < 56320 → halfZ n = 1 := by intro h; unfold halfZ; rw [if_pos h]
  have h2 : 56320 ≤ n ∧ n < 57344 → halfZ n = 2 := by intro h; unfold halfZ; rw [if_neg (by omega), if_pos h]
  have H0 := Lib.hid h0
  have H1 := Lib.hid h1
  have H2 := Lib.hid h2
  clear h0 h1 h2
  rcases hc with h | ⟨h, h'⟩ | ⟨h, h'⟩ | h
  all_goals
    go_enter Try.func48, Try.ntmps48
    go_wp2
    go_ret
  · exact ⟨ret_i64 (H0.out (by omega)).symm, rfl⟩
  · exact ⟨ret_i64 (H1.out (by omega)).symm, rfl⟩
  · exact ⟨ret_i64 (H2.out (by omega)).symm, rfl⟩
  · exact ⟨ret_i64 (H0.out (by omega)).symm, rfl⟩

end Go.Proofs.Ytakcfgmibijdnaa

/- Plain facts: the first size whose character's bytes stand there is the decoder's; where there is none the decoder finds none. -/
namespace Go.Proofs.Ytakcfgmibijdnaa

/-- So many bytes are those of the character that they would tell. -/
def hitB (s : ByteArray) (i k : Nat) : Prop := rightB (guessB s i k) = true ∧ (⟨(putL (guessB s i k).toNat).toArray⟩ : ByteArray) = s.extract i (i + k)

theorem putL_nat {n : Nat} (hn : n < 1114112) : (putL n).map UInt8.toNat = putN n := by
  have hb : ∀ x, x ∈ putN n → x < 256 := by
    intro x hx
    unfold putN at hx
    repeat' split at hx
    all_goals simp at hx; omega
  unfold putL
  rw [List.map_map]
  conv => rhs; rw [← List.map_id (putN n)]
  refine List.map_congr_left fun x hx => ?_
  simp only [Function.comp, id]
  exact UInt8.toNat_ofNat_of_lt' (hb x hx)

theorem part_nat (s : ByteArray) (i k : Nat) (hk1 : 1 ≤ k) (hk4 : k ≤ 4) (hik : i + k ≤ s.size) : ((s.data.toList.drop i).take k).map UInt8.toNat = firstN k (byteAt s i).toNat (byteAt s (i + 1)).toNat (byteAt s (i + 2)).toNat (byteAt s (i + 3)).toNat := by
  have hl : s.data.toList.length = s.size := rfl
  have hc : k = 1 ∨ k = 2 ∨ k = 3 ∨ k = 4 := by omega
  apply List.ext_getElem?
  intro j
  unfold firstN byteAt
  simp only [List.getElem?_map, List.getElem?_take, List.getElem?_drop]
  by_cases hj : j < k
  · have hjs : i + j < s.data.toList.length := by omega
    rw [if_pos hj, if_pos hj, List.getElem?_eq_getElem hjs]
    have hj4 : j = 0 ∨ j = 1 ∨ j = 2 ∨ j = 3 := by omega
    rcases hj4 with rfl | rfl | rfl | rfl
    · simp [List.getD, hl, show i < s.size by omega]
    · simp [List.getD, hl, show i + 1 < s.size by omega]
    · simp [List.getD, hl, show i + 2 < s.size by omega]
    · simp [List.getD, hl, show i + 3 < s.size by omega]
  · rw [if_neg hj, if_neg hj]; rfl

theorem extract_list (s : ByteArray) (i k : Nat) : (s.extract i (i + k)).data.toList = (s.data.toList.drop i).take k := by
  rw [Lib.extract_eq, Nat.add_sub_cancel_left]

theorem hitB_iff (s : ByteArray) (i k : Nat) (hk1 : 1 ≤ k) (hk4 : k ≤ 4) (hik : i + k ≤ s.size) :
    hitB s i k ↔ rightZ (guessB s i k) ∧ putN (guessB s i k).toNat = firstN k (byteAt s i).toNat (byteAt s (i + 1)).toNat (byteAt s (i + 2)).toNat (byteAt s (i + 3)).toNat := by
  unfold hitB
  rw [rightB_iff]
  refine and_congr_right fun hr => ?_
  have hr' := hr
  unfold rightZ at hr'
  have hn : (guessB s i k).toNat < 1114112 := by omega
  rw [← putL_nat hn, ← part_nat s i k hk1 hk4 hik, ← extract_list]
  constructor
  · intro h; rw [← h]
  · intro h
    apply ByteArray.ext
    apply Array.ext'
    have hid : ∀ l : List UInt8, (l.map UInt8.toNat).map UInt8.ofNat = l := fun l => by
      rw [List.map_map]
      conv => rhs; rw [← List.map_id l]
      exact List.map_congr_left fun x _ => by simp
    have := congrArg (List.map UInt8.ofNat) h
    rw [hid, hid] at this
    exact this

theorem hitB_dec {s : ByteArray} {i k : Nat} (hk1 : 1 ≤ k) (hk4 : k ≤ 4) (hik : i + k ≤ s.size) (h : hitB s i k) : okB s i = true ∧ decB s i = ((guessB s i k).toNat, k) := by
  obtain ⟨hr, hp⟩ := (hitB_iff s i k hk1 hk4 hik).1 h
  obtain ⟨e, ne⟩ := hit_dec (n := s.size - i) hk1 hk4 (by omega) (byteAt s i).toNat_lt (byteAt s (i + 1)).toNat_lt (byteAt s (i + 2)).toNat_lt (byteAt s (i + 3)).toNat_lt hr hp
  have e' : decB s i = ((guessB s i k).toNat, k) := e
  refine ⟨?_, e'⟩
  unfold okB
  rw [e']
  exact decide_eq_true ne

theorem no_hit {s : ByteArray} {i : Nat} (hi : i < s.size) (h : ∀ m, 1 ≤ m → m ≤ 4 → i + m ≤ s.size → ¬ hitB s i m) : okB s i = false := by
  refine decide_eq_false fun ho => ?_
  obtain ⟨k, hk1, hk4, hkn, hr, hp⟩ := dec_hit (n := s.size - i) (by omega) (byteAt s i).toNat_lt (byteAt s (i + 1)).toNat_lt (byteAt s (i + 2)).toNat_lt (byteAt s (i + 3)).toNat_lt ho
  exact h k hk1 hk4 (by omega) ((hitB_iff s i k hk1 hk4 (by omega)).2 ⟨hr, hp⟩)

/-- The reference's answer: the character, and how many bytes it has; 0, 0: none. -/
def refC (s : ByteArray) (i : Nat) : Nat := if okB s i then (decB s i).1 else 0
def refN (s : ByteArray) (i : Nat) : Nat := if okB s i then (decB s i).2 else 0
theorem ref_yes {s : ByteArray} {i c n : Nat} (h : okB s i = true ∧ decB s i = (c, n)) : c = refC s i ∧ n = refN s i := by
  unfold refC refN
  rw [if_pos h.1, if_pos h.1, h.2]
  exact ⟨rfl, rfl⟩
theorem ref_no {s : ByteArray} {i : Nat} (h : okB s i = false) : 0 = refC s i ∧ 0 = refN s i := by
  unfold refC refN
  rw [h]
  exact ⟨rfl, rfl⟩
theorem ret_next {s : ByteArray} {i c n : Nat} (h : c = refC s i ∧ n = refN s i) :
    Ending.returned (.tuple #[.int .i64 (c : Int), .int .i64 (n : Int)]) = .returned (.tuple #[.int .i64 (refC s i : Int), .int .i64 (refN s i : Int)]) := by rw [h.1, h.2]
theorem ret_next0 {s : ByteArray} {i : Nat} (h : 0 = refC s i ∧ 0 = refN s i) :
    Ending.returned (.tuple #[.int .i64 0, .int .i64 0]) = .returned (.tuple #[.int .i64 (refC s i : Int), .int .i64 (refN s i : Int)]) := by rw [← h.1, ← h.2]; rfl
end Go.Proofs.Ytakcfgmibijdnaa

/- Plain facts: characters' bytes and back. -/
namespace Go.Proofs.Ytakcfgmibijdnaa

theorem rightC_iff (n : Nat) : rightC n ↔ rightB (n : Int) = true := by
  rw [rightB_iff]; unfold rightC rightZ; omega
theorem putN_len (n : Nat) : 1 ≤ (putN n).length ∧ (putN n).length ≤ 4 := by
  unfold putN
  repeat' split
  all_goals simp
theorem putL_len (n : Nat) : (putL n).length = (putN n).length := by simp [putL]

theorem runeCells_put {n : Nat} (h : rightC n) : Lib.runeCells (n : Int) = (putL n).map byteV := by
  have hb : ∀ x, x ∈ putN n → x < 256 := by
    intro x hx
    unfold rightC at h
    unfold putN at hx
    repeat' split at hx
    all_goals simp at hx; omega
  have e : (putL n).map byteV = (putN n).map fun x : Nat => Value.int .u8 (x : Int) := by
    unfold putL
    rw [List.map_map]
    refine List.map_congr_left fun x hx => ?_
    simp only [Function.comp, byteV]
    rw [UInt8.toNat_ofNat_of_lt' (hb x hx)]
  rw [e]
  unfold rightC at h
  unfold Lib.runeCells
  have hc : n < 128 ∨ (128 ≤ n ∧ n < 2048) ∨ (2048 ≤ n ∧ n < 65536) ∨ 65536 ≤ n := by omega
  rcases hc with h1 | ⟨h1, h2⟩ | ⟨h1, h2⟩ | h1
  · rw [Lib.encodeRuneZ_one (by omega) (by omega), put1 h1]; rfl
  · rw [Lib.encodeRuneZ_two (by omega) (by omega), put2 h1 h2]; simp
  · rw [Lib.encodeRuneZ_three (by omega), put3 h1 h2]; simp
  · rw [Lib.encodeRuneZ_four (by omega) (by omega), put4 h1]; simp

theorem guess_put {n b0 b1 b2 b3 : Nat} (h : rightC n) (hf : firstN (putN n).length b0 b1 b2 b3 = putN n) : guessZ (putN n).length b0 b1 b2 b3 = n := by
  unfold rightC at h
  have hc : n < 128 ∨ (128 ≤ n ∧ n < 2048) ∨ (2048 ≤ n ∧ n < 65536) ∨ 65536 ≤ n := by omega
  rcases hc with h1 | ⟨h1, h2⟩ | ⟨h1, h2⟩ | h1
  · rw [put1 h1] at hf ⊢
    simp [firstN] at hf
    rw [show (([n] : List Nat).length : Int) = 1 from rfl, guess1]
    omega
  · rw [put2 h1 h2] at hf ⊢
    simp [firstN] at hf
    rw [show (([192 + n / 64, 128 + n % 64] : List Nat).length : Int) = 2 from rfl, guess2]
    omega
  · rw [put3 h1 h2] at hf ⊢
    simp [firstN] at hf
    rw [show (([224 + n / 4096, 128 + n / 64 % 64, 128 + n % 64] : List Nat).length : Int) = 3 from rfl, guess3]
    omega
  · rw [put4 h1] at hf ⊢
    simp [firstN] at hf
    rw [show (([240 + n / 262144, 128 + n / 4096 % 64, 128 + n / 64 % 64, 128 + n % 64] : List Nat).length : Int) = 4 from rfl, guess4]
    omega

theorem rightC_lt {n : Nat} (h : rightC n) : n < 1114112 := by unfold rightC at h; omega

/-- A character's bytes at a place are read as it. -/
theorem put_dec {s : ByteArray} {i n : Nat} (h : rightC n) (hi : i + (putL n).length ≤ s.size) (hb : (s.data.toList.drop i).take (putL n).length = putL n) : decB s i = (n, (putL n).length) ∧ okB s i = true := by
  have hl := putN_len n
  rw [putL_len] at hi hb ⊢
  have hf : firstN (putN n).length (byteAt s i).toNat (byteAt s (i + 1)).toNat (byteAt s (i + 2)).toNat (byteAt s (i + 3)).toNat = putN n := by
    rw [← part_nat s i _ hl.1 hl.2 hi, hb, putL_nat (rightC_lt h)]
  have hg := guess_put h hf
  have hh : hitB s i (putN n).length := (hitB_iff s i _ hl.1 hl.2 hi).2 ⟨by
    show rightZ (guessZ _ _ _ _ _)
    rw [hg, ← rightB_iff]; exact (rightC_iff n).1 h, by
    show putN (guessZ _ _ _ _ _).toNat = _
    rw [hg, hf, Int.toNat_natCast]⟩
  have hd := hitB_dec hl.1 hl.2 hi hh
  refine ⟨?_, hd.1⟩
  rw [hd.2]
  show ((guessZ _ _ _ _ _).toNat, _) = _
  rw [hg, Int.toNat_natCast]

/-- What is read as a character is its bytes. -/
theorem dec_put {s : ByteArray} {i : Nat} (hi : i < s.size) (ho : okB s i = true) : putL (decB s i).1 = (s.data.toList.drop i).take (decB s i).2 := by
  have ho' : decB s i ≠ (65533, 1) := of_decide_eq_true ho
  obtain ⟨k, hk1, hk4, hkn, hr, hp⟩ := dec_hit (n := s.size - i) (by omega) (byteAt s i).toNat_lt (byteAt s (i + 1)).toNat_lt (byteAt s (i + 2)).toNat_lt (byteAt s (i + 3)).toNat_lt ho'
  have hh : hitB s i k := (hitB_iff s i k hk1 hk4 (by omega)).2 ⟨hr, hp⟩
  have hd := hitB_dec hk1 hk4 (by omega) hh
  rw [hd.2]
  have := congrArg (fun b : ByteArray => b.data.toList) hh.2
  simp only [extract_list] at this
  exact this

/-- The bytes of characters. -/
def putAll (l : List Nat) : List UInt8 := l.flatMap putL
theorem putAll_cons (c : Nat) (l : List Nat) : putAll (c :: l) = putL c ++ putAll l := rfl
theorem putAll_app (a b : List Nat) : putAll (a ++ b) = putAll a ++ putAll b := by unfold putAll; exact List.flatMap_append
theorem putAll_one (c : Nat) : putAll [c] = putL c := by unfold putAll; simp
theorem putAll_len (l : List Nat) : l.length ≤ (putAll l).length ∧ (putAll l).length ≤ 4 * l.length := by
  induction l with
  | nil => simp [putAll]
  | cons c l ih =>
    have := putN_len c
    rw [putAll_cons, List.length_append, putL_len, List.length_cons]; omega

theorem chrs_put_at : ∀ (post pre : List Nat), (∀ c ∈ post, rightC c) → Reach ⟨(putAll (pre ++ post)).toArray⟩ pre (putAll pre).length → chrs ⟨(putAll (pre ++ post)).toArray⟩ = (pre ++ post, none) := by
  intro post
  induction post with
  | nil =>
    intro pre _ hr
    rw [List.append_nil] at hr ⊢
    exact hr.done (by show ¬ _ < (putAll pre).toArray.size; simp)
  | cons c post ih =>
    intro pre hc hr
    have hsz : (⟨(putAll (pre ++ c :: post)).toArray⟩ : ByteArray).size = (putAll pre).length + ((putL c).length + (putAll post).length) := by
      show (putAll (pre ++ c :: post)).toArray.size = _
      rw [putAll_app, putAll_cons]; simp
    have hl := putN_len c
    have hd := put_dec (s := ⟨(putAll (pre ++ c :: post)).toArray⟩) (i := (putAll pre).length) (hc c (by simp)) (by rw [hsz]; omega) (by
      show (((putAll (pre ++ c :: post)).toArray.toList).drop _).take _ = _
      rw [putAll_app, putAll_cons]
      simp)
    have hs := hr.step (by rw [hsz, putL_len]; omega) hd.2
    rw [hd.1] at hs
    have e : (putAll (pre ++ [c])).length = (putAll pre).length + (putL c).length := by rw [putAll_app, putAll_one, List.length_append]
    have := ih (pre ++ [c]) (fun d hd' => hc d (by simp [hd'])) (by rw [e]; simpa using hs)
    simpa using this

theorem chrs_put (l : List Nat) (h : ∀ c ∈ l, rightC c) : chrs ⟨(putAll l).toArray⟩ = (l, none) := by
  have := chrs_put_at l [] h (Reach.zero _)
  simpa using this

theorem put_from (s : ByteArray) : ∀ (f i : Nat), s.size - i ≤ f → i ≤ s.size → (chrsFrom s f i).2 = none → putAll (chrsFrom s f i).1 = s.data.toList.drop i := by
  intro f
  induction f with
  | zero =>
    intro i hf hi _
    have hl : s.data.toList.length = s.size := rfl
    rw [List.drop_eq_nil_of_le (by omega)]; rfl
  | succ f ih =>
    intro i hf hi hn
    have hl : s.data.toList.length = s.size := rfl
    unfold chrsFrom at hn ⊢
    by_cases hlt : i < s.size
    · rw [if_pos hlt] at hn ⊢
      by_cases ho : okB s i = true
      · rw [if_pos ho] at hn ⊢
        have hd := decB_bounds s i hlt
        rw [putAll_cons, ih _ (by omega) (by omega) hn, dec_put hlt ho, ← List.drop_drop, List.take_append_drop]
      · rw [if_neg ho] at hn
        simp at hn
    · rw [if_neg hlt, List.drop_eq_nil_of_le (by omega)]; rfl
theorem put_chrs (s : ByteArray) (h : (chrs s).2 = none) : putAll (chrs s).1 = s.data.toList := put_from s s.size 0 (by omega) (by omega) h
theorem right_from (s : ByteArray) : ∀ (f i : Nat), ∀ c ∈ (chrsFrom s f i).1, rightC c := by
  intro f
  induction f with
  | zero => intro i c h; simp [chrsFrom] at h
  | succ f ih =>
    intro i c h
    unfold chrsFrom at h
    split at h
    · split at h
      · rcases List.mem_cons.1 h with rfl | h
        · exact (decB_bounds s i (by assumption)).2.2.2
        · exact ih _ c h
      · simp at h
    · simp at h
theorem right_chrs (s : ByteArray) : ∀ c ∈ (chrs s).1, rightC c := right_from s s.size 0
end Go.Proofs.Ytakcfgmibijdnaa

/- Plain facts: a list of numbers' bytes, or the first one that is no character. -/
namespace Go.Proofs.Ytakcfgmibijdnaa

/-- How many of the list's numbers, from its head, are characters. -/
def rightLen : List Int → Nat
  | [] => 0
  | c :: l => if rightB c = true then rightLen l + 1 else 0
def nats (l : List Int) : List Nat := l.map Int.toNat
theorem rightLen_le (l : List Int) : rightLen l ≤ l.length := by
  induction l with
  | nil => exact Nat.le_refl _
  | cons c l ih => unfold rightLen; split <;> simp <;> omega
theorem rightLen_step : ∀ (l : List Int) (i : Nat), i ≤ rightLen l → i < l.length → (rightB (l.getD i 0) = true → i + 1 ≤ rightLen l) ∧ (rightB (l.getD i 0) = false → rightLen l = i) := by
  intro l
  induction l with
  | nil => intro i _ h; simp at h
  | cons c l ih =>
    intro i h1 h2
    unfold rightLen at h1 ⊢
    by_cases hc : rightB c = true
    · rw [if_pos hc] at h1 ⊢
      cases i with
      | zero => exact ⟨fun _ => by omega, fun h => by simp [hc] at h⟩
      | succ i =>
        have := ih i (by omega) (by simpa using h2)
        constructor
        · intro h; have := this.1 (by simpa using h); omega
        · intro h; have := this.2 (by simpa using h); omega
    · rw [if_neg hc] at h1 ⊢
      obtain rfl : i = 0 := by omega
      exact ⟨fun h => absurd (by simpa using h) hc, fun _ => rfl⟩
theorem right_all : ∀ (l : List Int), rightLen l = l.length → ∀ c ∈ nats l, rightC c := by
  intro l
  induction l with
  | nil => intro _ c hc; simp [nats] at hc
  | cons d l ih =>
    intro h c hc
    unfold rightLen at h
    split at h
    · rename_i hd
      simp only [nats, List.map_cons, List.mem_cons] at hc
      rcases hc with rfl | hc
      · have hz := (rightB_iff d).1 hd
        unfold rightZ at hz
        unfold rightC; omega
      · exact ih (by simpa using h) c hc
    · simp at h
theorem nats_take_succ (l : List Int) (i : Nat) (hi : i < l.length) : nats (l.take (i + 1)) = nats (l.take i) ++ [(l.getD i 0).toNat] := by
  unfold nats
  rw [List.take_succ_eq_append_getElem hi, List.map_append]
  simp [hi]
theorem nats_len (l : List Int) : (nats l).length = l.length := by simp [nats]
end Go.Proofs.Ytakcfgmibijdnaa

/- Bytes that a call owns: appending bytes, or a string's bytes, to them. -/
namespace Go.Proofs.Ytakcfgmibijdnaa
open Go.RowKit

theorem info_byte : (Try.prog.info? 5).map (fun i => (i.zero, i.size, i.bytes)) = some (some (.int .u8 0), 1, 1) := by kernel_rfl

/-- A slice of bytes of the call's own. -/
def OwnB (w : World) (base : Nat) (v : Value) (l : List UInt8) : Prop := w.ownsRow base 5 1 v l.length (l.map byteV)

section
variable {w w' : World} {base : Nat} {v : Value} {l : List UInt8}
theorem OwnB.nil (w : World) (base : Nat) : OwnB w base (.slice none 0 0) [] := World.ownsRow_nil _ _ _ _
theorem OwnB.lit (w : World) (l : List UInt8) (cs : Array Value) (n : Nat) (hcs : cs = (l.map byteV).toArray) (hn : n = l.length) (hb : base ≤ w.heap.size) (hl : l.length ≤ 16777216) :
    OwnB (w.alloc (.cells cs 5)) base (.slice (some ⟨w.heap.size, 0, none⟩) n n) l := by
  subst hn
  have h := World.ownsRow_lit (base := base) (e := 5) (size := 1) w cs l.length hb (by unfold maxLen; omega) (by rw [hcs]; simp)
  unfold OwnB
  rw [hcs] at h ⊢
  simpa using h
theorem OwnB.below (h : OwnB w base v l) (hb : Below w.heap.size w w') : OwnB w' base v l := ownsRow_below h hb
theorem OwnB.base' {b : Nat} (h : OwnB w base v l) (hb : b ≤ base) : OwnB w b v l := ownsRow_base h hb
theorem OwnB.shape (h : OwnB w base v l) : (l = [] ∧ v = .slice none 0 0) ∨ ∃ g cap, v = .slice (some ⟨g, 0, none⟩) l.length cap ∧ l.length ≤ cap ∧ cap ≤ maxLen ∧ base ≤ g ∧ g < w.heap.size := by
  rcases h.2 with ⟨h0, h1⟩ | ⟨g, cap, cur, rfl, hg, hh, h1, h2, _⟩
  · exact .inl ⟨List.eq_nil_of_length_eq_zero h1, h0⟩
  · exact .inr ⟨g, cap, rfl, h1, h2, hg, lt_of_block hh⟩
theorem OwnB.sl (h : OwnB w base v l) : BytesSl w v ⟨l.toArray⟩ := by
  have hsz : (⟨l.toArray⟩ : ByteArray).size = l.length := by show l.toArray.size = _; simp
  rcases h.shape with ⟨rfl, rfl⟩ | ⟨g, cap, rfl, h1, h2, _, h4⟩
  · exact .inl ⟨rfl, none, 0, rfl⟩
  · refine .inr ⟨g, 0, cap, by rw [hsz], by rw [hsz]; exact h1, h2, h4, fun j hj => ?_⟩
    rw [hsz] at hj
    rw [Nat.zero_add, World.ownsRow.cellAt h j (by omega)]
    simp [hj, byteV, byteAt]
end

section
variable {w : World} {ops : Array Oper} {rest : List Oper} {o : Oper} {a : Act} {Q : Exit → Act → World → Prop}

theorem wpList_app_bytes (hgd : o.guard = none) (s x : Operand) (ho : o.op = .call { callee := .builtin .append, args := #[s, x], argTypes := #[22, 22] })
    (base : Nat) (v : Value) (l : List UInt8) (hs : a.eval s = v) (hown : OwnB w base v l) (y : Value) (S : ByteArray) (hx : a.eval x = y) (hy : BytesSl w y S)
    (hl : l.length + S.size ≤ 1073741824) (hbase : base ≤ w.heap.size)
    (h : ∀ v' w', OwnB w' base v' (l ++ S.data.toList) → w.grownBy w' v.ownBlock → wpList Try.prog ops Q rest (a.put o.dst v') w') : wpList Try.prog ops Q (o :: rest) a w := by
  obtain ⟨i, hi, hz, hsize, hby⟩ := info_parts info_byte
  have hSl : S.data.toList.length = S.size := rfl
  rcases hy with ⟨h0, ad, cap, rfl⟩ | ⟨b, off, cap, rfl, hc, hcm, hbs, hp⟩
  · have hS : S.data.toList = [] := List.eq_nil_of_length_eq_zero (by rw [hSl]; exact h0)
    have hsrc : Src Try.prog i.size 22 (.slice ad 0 cap) 0 [] w := by
      cases ad with
      | none => exact Src.ofNil w Try.underlying22 cap
      | some ad => exact Src.ofSlice w Try.underlying22 ad 0 cap [] (by simp) (by simp) (by simp)
    refine wpList_plain hgd fun K hK => ?_
    have hrun : (Builtin.append_ #[22, 22] o.type #[v, .slice ad 0 cap]).run Try.prog w = .ok v w := by
      rcases hown.shape with ⟨_, rfl⟩ | ⟨g, c, rfl, h1, _⟩
      · exact run_append_nothing w _ _ _ 5 i Try.underlying22 hi none 0 0 (Nat.le_refl _) _ hsrc
      · exact run_append_nothing w _ _ _ 5 i Try.underlying22 hi _ _ _ h1 _ hsrc
    unfold Oper.wp
    simp [execOp, ho, resolve, invoke, builtin, hs, hx, hrun, Result.andThen]
    refine hK _ _ (h v w (by rw [hS, List.append_nil]; exact hown) (below_grownBy (Below.refl _ _) _))
  · refine wpList_append_own _ hgd s x 22 ho base 5 i (.int .u8 0) 1 1 Try.underlying22 hi hz hsize hby rfl (by decide) v _ _ hs hown _ _ cap (S.data.toList.map byteV) hx (by simp [hSl]) ?_ ?_ (by unfold maxLen; omega) (by omega) hbase ?_
    · intro j u hj
      have hj' : j < S.size := by
        have := (List.getElem?_eq_some_iff.1 hj).1
        simpa [hSl] using this
      rw [Addr.add_lit, hp j hj', ← hj]
      have hj2 : j < S.data.toList.length := hj'
      simp only [List.getElem?_map, List.getElem?_eq_getElem hj2, Option.map_some, byteV, byteAt, List.getD, Option.getD_some]
    · intro u hu
      obtain ⟨_, _, rfl⟩ := List.mem_map.1 hu
      rfl
    · intro v' w' h1 h2 _
      refine h v' w' ?_ h2
      unfold OwnB
      rw [List.length_append, List.map_append, hSl]
      exact h1
end
end Go.Proofs.Ytakcfgmibijdnaa
