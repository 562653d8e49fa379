/- Plain facts: small letters. -/
import Derived.Test.YtbonnmkkacplgaaGreatDoorLabelNamesM15
import Derived.Laws.BitsLemmas
import Derived.Test.YtbonnmkkacplgaaGreatDoorLabelNamesM12
import Derived.Laws.BytesArg
import Derived.Test.YtbonnmkkacplgaaGreatDoorLabelNamesM3
import Derived.Test.YtbonnmkkacplgaaGreatDoorLabelNamesM1

namespace Go.Proofs.YtbonnmkkacplgaaGreatDoor
open Go.RowKit

def lowerB (b : UInt8) : UInt8 := if 65 ≤ b.toNat ∧ b.toNat ≤ 90 then b + 32 else b
theorem lowerB_nat (b : UInt8) : (lowerB b).toNat = smallN b.toNat := by
  have hb := b.toNat_lt
  unfold lowerB smallN
  split
  · rw [UInt8.toNat_add]
    simp
    omega
  · rfl
theorem lowerB_idem (b : UInt8) : lowerB (lowerB b) = lowerB b := by
  have h := lowerB_nat b
  apply UInt8.toNat_inj.1
  rw [lowerB_nat, h]
  unfold smallN
  repeat' split
  all_goals omega
theorem or_letter (n : Nat) (h1 : 65 ≤ n) (h2 : n ≤ 90) : bits .or .u8 (n : Int) 32 = ((n + 32 : Nat) : Int) := by
  have : ∀ n : Fin 91, 65 ≤ n.1 → bits .or .u8 (n.1 : Int) 32 = ((n.1 + 32 : Nat) : Int) := by decide +kernel
  exact this ⟨n, by omega⟩ h1
/-- A text with small letters. -/
def lowerL (l : List UInt8) : List UInt8 := l.map lowerB
def lowerS (s : ByteArray) : ByteArray := ⟨(lowerL s.data.toList).toArray⟩
theorem lowerS_size (s : ByteArray) : (lowerS s).size = s.size := by
  show (lowerL s.data.toList).toArray.size = s.data.toList.length
  simp [lowerL]
theorem lowerS_idem (s : ByteArray) : lowerS (lowerS s) = lowerS s := by
  unfold lowerS lowerL
  apply ByteArray.ext
  apply Array.ext'
  show (s.data.toList.map lowerB).map lowerB = s.data.toList.map lowerB
  rw [List.map_map]
  exact List.map_congr_left fun x _ => lowerB_idem x
/-- So far small letters. -/
def lowTo (s : ByteArray) (i : Nat) : List UInt8 := lowerL (s.data.toList.take i) ++ s.data.toList.drop i
theorem lowTo_len (s : ByteArray) (i : Nat) : (lowTo s i).length = s.size := by
  have hl : s.data.toList.length = s.size := rfl
  simp [lowTo, lowerL]; omega
theorem lowTo_zero (s : ByteArray) : lowTo s 0 = s.data.toList := by simp [lowTo, lowerL]
theorem lowTo_all (s : ByteArray) : lowTo s s.size = (lowerS s).data.toList := by
  have hl : s.data.toList.length = s.size := rfl
  show lowerL (s.data.toList.take s.size) ++ s.data.toList.drop s.size = lowerL s.data.toList
  rw [List.take_of_length_le (by omega), List.drop_eq_nil_of_le (by omega), List.append_nil]
theorem lowTo_at {s : ByteArray} {i : Nat} (hi : i < s.size) : (lowTo s i).getD i 0 = byteAt s i := by
  have hl : s.data.toList.length = s.size := rfl
  have h1 : (lowerL (s.data.toList.take i)).length = i := by simp [lowerL]; omega
  unfold lowTo byteAt
  simp only [List.getD, List.getElem?_append, h1, Nat.lt_irrefl, if_false, Nat.sub_self, List.getElem?_drop, Nat.add_zero]
theorem lowTo_set {s : ByteArray} {i : Nat} (hi : i < s.size) : (lowTo s i).set i (lowerB (byteAt s i)) = lowTo s (i + 1) := by
  have hl : s.data.toList.length = s.size := rfl
  have hlt : i < s.data.toList.length := by omega
  have h1 : (lowerL (s.data.toList.take i)).length = i := by simp [lowerL]; omega
  have hb : byteAt s i = s.data.toList[i] := by unfold byteAt; rw [List.getD, List.getElem?_eq_getElem hlt]; rfl
  unfold lowTo
  rw [List.set_append_right _ _ (by rw [h1]; exact Nat.le_refl _), h1, Nat.sub_self, List.drop_eq_getElem_cons hlt, List.set_cons_zero, List.take_succ_eq_append_getElem hlt, hb]
  simp [lowerL]
theorem lowTo_keep {s : ByteArray} {i : Nat} (hi : i < s.size) (h : lowerB (byteAt s i) = byteAt s i) : lowTo s (i + 1) = lowTo s i := by
  rw [← lowTo_set hi, h]
  have h2 := lowTo_at hi
  have hll : i < (lowTo s i).length := by rw [lowTo_len]; exact hi
  apply List.ext_getElem?
  intro j
  rw [List.getElem?_set]
  split
  · rename_i e
    subst e
    rw [← h2, List.getD, List.getElem?_eq_getElem hll]; rfl
  · rfl
end Go.Proofs.YtbonnmkkacplgaaGreatDoor

/- A call's own bytes, as a string. -/
namespace Go.Proofs.YtbonnmkkacplgaaGreatDoor
open Go.RowKit

theorem BytesSl.conv {w : World} {a : Option Addr} {len cap : Nat} {s : ByteArray} (h : BytesSl w (.slice a len cap) s) : (convert 32 9 (.slice a len cap)).run Tryz.prog w = .ok (.string s) w := by
  rcases h with ⟨h0, a', cap', e⟩ | ⟨b, off, cap', e, h1, h2, h3, h4⟩
  · cases e
    have hs : s = ⟨#[]⟩ := by
      apply ByteArray.ext
      apply Array.eq_empty_of_size_eq_zero
      exact h0
    subst hs
    cases a with
    | none =>
      exact run_convert_bytes_nil w 32 5 Tryz.underlying32 Tryz.underlying5 0 cap 9 Tryz.underlying9
    | some ad =>
      have := run_convert_bytes_back (P := Tryz.prog) w 32 9 5 ad cap [] Tryz.underlying32 Tryz.underlying5 Tryz.underlying9 (fun j hj => by simp at hj)
      exact this
  · cases e
    have := run_convert_bytes_back (P := Tryz.prog) w 32 9 5 ⟨b, off, none⟩ cap s.data.toList Tryz.underlying32 Tryz.underlying5 Tryz.underlying9 (fun j hj => by
      have hj' : j < s.size := hj
      rw [Addr.add_lit, h4 j hj']
      simp [byteAt, List.getD, List.getElem?_eq_getElem hj])
    exact this
theorem OwnB.conv {w : World} {base : Nat} {v : Value} {l : List UInt8} (h : OwnB w base v l) : (convert 32 9 v).run Tryz.prog w = .ok (.string ⟨l.toArray⟩) w := by
  rcases h.shape with ⟨rfl, rfl⟩ | ⟨g, cap, rfl, h1, h2, h3, h4⟩
  · exact BytesSl.conv h.sl
  · exact BytesSl.conv h.sl
end Go.Proofs.YtbonnmkkacplgaaGreatDoor

/- fold.Lower, fold.Same; the reference's Lower. -/
namespace Go.Proofs.YtbonnmkkacplgaaGreatDoor
open Go.RowKit

theorem ret_low {s t : ByteArray} (h : t = lowerS s) : Ending.returned (.string t) = .returned (.string (lowerS s)) := by rw [h]

set_option maxHeartbeats 1600000 in
theorem fold_Lower (s : ByteArray) (w : World) (hs : s.size ≤ 140737488351232) : Calls Tryz.prog 30 #[.string s] w fun e w' => e = .returned (.string (lowerS s)) ∧ Below w.heap.size w w' := by
  go_enter Tryz.func30, Tryz.ntmps30
  go_wp2_with ((with_reducible refine wpList_bytes (o := ⟨some 7, _, _, _, _, _⟩) rfl 9 32 5 _ rfl s rfl Tryz.underlying9 Tryz.underlying32 Tryz.underlying5 ?_); intro cap w1 hcap hB hb1 hsz1)
  go_loopw [10] (fun a wr => ∃ i : Nat, i ≤ s.size ∧ a = .int .i64 i ∧ BytesAt wr w.heap.size (lowTo s i) ∧ Below w.heap.size w wr) (fun a _ => s.size - (intOf a).toNat)
  case atStart => exact ⟨0, Nat.zero_le _, rfl, by rw [lowTo_zero]; exact hB, hb1⟩
  case round =>
    obtain ⟨i, hil, rfl, hBr, hbr⟩ := hrel
    by_cases hlt : i < s.size
    · have hc := hBr.cell (k := i) (by rw [lowTo_len]; exact hlt)
      have hfz := hBr.frozen (k := i) (by rw [lowTo_len]; exact hlt)
      rw [lowTo_at hlt] at hc
      have hst := fun b => hBr.store (k := i) (by rw [lowTo_len]; exact hlt) b
      have hset := lowTo_set hlt
      have hkeep := lowTo_keep hlt
      have hnat := lowerB_nat (byteAt s i)
      have hdef : lowerB (byteAt s i) = if 65 ≤ (byteAt s i).toNat ∧ (byteAt s i).toNat ≤ 90 then byteAt s i + 32 else byteAt s i := rfl
      have hb := (byteAt s i).toNat_lt
      generalize byteAt s i = c at *
      by_cases hc1 : 65 ≤ c.toNat
      · by_cases hc2 : c.toNat ≤ 90
        · have hor := or_letter c.toNat hc1 hc2
          have hv : (lowerB c).toNat = c.toNat + 32 := by rw [hnat]; unfold smallN; rw [if_pos ⟨hc1, hc2⟩]
          have h2 := hst (lowerB c)
          rw [hset, hv] at h2
          have H2 := Lib.hid h2
          clear hst hset hkeep hnat hdef hv h2 hBr
          go_wp2_with fail
          go_roundw
          case rel => exact ⟨i + 1, by omega, by go_num, H2.out, hbr.setCell (Nat.le_refl _) _⟩
          case measure => simp [intOf]; omega
        · have hk := hkeep (by rw [hdef, if_neg (by omega)])
          have h2 : BytesAt wr w.heap.size (lowTo s (i + 1)) := by rw [hk]; exact hBr
          have H2 := Lib.hid h2
          clear hst hset hkeep hnat hdef hk h2 hBr
          go_wp2_with fail
          go_roundw
          case rel => exact ⟨i + 1, by omega, by go_num, H2.out, hbr⟩
          case measure => simp [intOf]; omega
      · have hk := hkeep (by rw [hdef, if_neg (by omega)])
        have h2 : BytesAt wr w.heap.size (lowTo s (i + 1)) := by rw [hk]; exact hBr
        have H2 := Lib.hid h2
        clear hst hset hkeep hnat hdef hk h2 hBr
        go_wp2_with fail
        go_roundw
        case rel => exact ⟨i + 1, by omega, by go_num, H2.out, hbr⟩
        case measure => simp [intOf]; omega
    · obtain rfl : i = s.size := by omega
      have hcv := run_back wr 32 9 5 w.heap.size cap _ Tryz.underlying32 Tryz.underlying5 Tryz.underlying9 hBr
      rw [lowTo_len, lowTo_all] at hcv
      clear hBr
      have hcv2 : (convert 32 9 (.slice (some ⟨w.heap.size, 0, none⟩) s.size cap)).run Tryz.prog wr = .ok (.string (lowerS s)) wr := hcv
      clear hcv
      go_wp2_with fail
      go_ret
      exact ⟨rfl, hbr⟩

theorem ref_Small' (c : UInt8) (w : World) : Calls Tryz.prog 70 #[.int .u8 (c.toNat : Int)] w fun e w' => e = .returned (.int .u8 ((lowerB c).toNat : Int)) ∧ w = w' :=
  (ref_Small c.toNat c.toNat_lt w).mono fun _ _ ⟨a, b⟩ => ⟨by rw [a, lowerB_nat], b⟩

theorem one_sl (w : World) (b : UInt8) : BytesSl (w.alloc (.cells #[byteV b] 5)) (.slice (some ⟨w.heap.size, 0, none⟩) 1 1) ⟨#[b]⟩ :=
  BytesSl.lit w [b] _ 1 rfl rfl (by simp)

set_option maxHeartbeats 1600000 in
theorem ref_Lower (s : ByteArray) (w : World) (hs : s.size ≤ 16777216) : Calls Tryz.prog 38 #[.string s] w fun e w' => e = .returned (.string (lowerS s)) ∧ Below w.heap.size w w' := by
  go_enter Tryz.func38, Tryz.ntmps38
  go_wp2_with fail
  go_loopw [3, 4] (fun v a wr => ∃ i : Nat, i ≤ s.size ∧ a = .int .i64 i ∧ OwnB wr w.heap.size v (lowerL (s.data.toList.take i)) ∧ Below w.heap.size w wr) (fun _ a _ => s.size - (intOf a).toNat)
  case atStart => exact ⟨0, Nat.zero_le _, rfl, OwnB.lit w [] #[] 0 rfl rfl (Nat.le_refl _) (by simp), (Below.refl _ _).alloc (Nat.le_refl _) _⟩
  case round =>
    rename_i u3
    obtain ⟨i, hil, rfl, hown, hbr⟩ := hrel
    have hl : s.data.toList.length = s.size := rfl
    by_cases hlt : i < s.size
    · have hb : byteAt s i = s.data.toList[i]'(by omega) := by unfold byteAt; rw [List.getD, List.getElem?_eq_getElem (by omega)]; rfl
      have hst : lowerL (s.data.toList.take i) ++ [lowerB (byteAt s i)] = lowerL (s.data.toList.take (i + 1)) := by
        rw [hb, List.take_succ_eq_append_getElem (by omega)]; simp [lowerL]
      have hlen : (lowerL (s.data.toList.take i)).length = i := by simp [lowerL]; omega
      generalize hd : lowerL (s.data.toList.take i) = done at *
      have HST := Lib.hid hst
      have hbk : s[i] = byteAt s i := by simp [byteAt, List.getD, hlt]; rfl
      have HBK := Lib.hid hbk
      clear hst hd hb hbk
      go_wp2_with fail
      rw [HBK.out]
      generalize byteAt s i = c at *
      refine (ref_Small' c _).mono ?_
      rintro e w2 ⟨rfl, rfl⟩
      generalize lowerB c = d at *
      have hbf : Below wr.heap.size wr (wr.alloc (.cells #[byteV d] 5)) := (Below.refl _ _).alloc (Nat.le_refl _) _
      have hown2 := hown.below hbf
      have hbr2 := Bt hbr hbf
      clear hown hbf
      have hy := one_sl wr d
      go_wp2_with (at_builtin; refine wpList_app_bytes rfl _ _ rfl w.heap.size _ _ rfl hown2 _ ⟨#[d]⟩ rfl hy (by rw [hlen]; show i + 1 ≤ _; omega) hbr2.size ?_)
      intro v3 w3 hown3 hgr
      have hb3 := hown2.under hbr2 (Nat.le_refl _) hgr
      have ht : done ++ (⟨#[d]⟩ : ByteArray).data.toList = lowerL (s.data.toList.take (i + 1)) := HST.out
      rw [ht] at hown3
      clear ht hgr hown2 hy hbr2
      go_wp2_with fail
      go_roundw
      case rel => exact ⟨i + 1, by omega, by go_num, hown3, hb3⟩
      case measure => simp [intOf]; omega
    · obtain rfl : i = s.size := by omega
      rw [← hl, List.take_length] at hown
      have hcv : (convert 32 9 u3).run Tryz.prog wr = .ok (.string (lowerS s)) wr := hown.conv
      clear hown
      go_wp2_with fail
      go_ret
      exact ⟨rfl, hbr⟩
end Go.Proofs.YtbonnmkkacplgaaGreatDoor

/- Plain facts: the characters of two rows of bytes, one behind the other. -/
namespace Go.Proofs.YtbonnmkkacplgaaGreatDoor

theorem guessZ_agree {k : Nat} (hk1 : 1 ≤ k) (hk4 : k ≤ 4) {b0 b1 b2 b3 c0 c1 c2 c3 : Nat} (h0 : b0 = c0) (h1 : 2 ≤ k → b1 = c1) (h2 : 3 ≤ k → b2 = c2) (h3 : 4 ≤ k → b3 = c3) :
    guessZ k b0 b1 b2 b3 = guessZ k c0 c1 c2 c3 ∧ firstN k b0 b1 b2 b3 = firstN k c0 c1 c2 c3 := by
  have hc : k = 1 ∨ k = 2 ∨ k = 3 ∨ k = 4 := by omega
  subst h0
  rcases hc with rfl | rfl | rfl | rfl
  · exact ⟨by rw [show ((1 : Nat) : Int) = 1 from rfl, guess1, guess1], rfl⟩
  · rw [h1 (by omega)]
    exact ⟨by rw [show ((2 : Nat) : Int) = 2 from rfl, guess2, guess2], rfl⟩
  · rw [h1 (by omega), h2 (by omega)]
    exact ⟨by rw [show ((3 : Nat) : Int) = 3 from rfl, guess3, guess3], rfl⟩
  · rw [h1 (by omega), h2 (by omega), h3 (by omega)]
    exact ⟨rfl, rfl⟩

/-- What stands whole ahead of the end is told alike when more bytes follow. -/
theorem decB_more {s t : ByteArray} {i i' : Nat} (hi : i < s.size) (hle : s.size - i ≤ t.size - i') (ho : okB s i = true) (hb : ∀ j, j < s.size - i → byteAt t (i' + j) = byteAt s (i + j)) : decB t i' = decB s i ∧ okB t i' = true := by
  have ho' : decB s i ≠ (65533, 1) := of_decide_eq_true ho
  obtain ⟨k, hk1, hk4, hkn, hr, hp⟩ := dec_hit (n := s.size - i) (by omega) (byteAt s i).toNat_lt (byteAt s (i + 1)).toNat_lt (byteAt s (i + 2)).toNat_lt (byteAt s (i + 3)).toNat_lt ho'
  obtain ⟨e1, _⟩ := hit_dec hk1 hk4 hkn (byteAt s i).toNat_lt (byteAt s (i + 1)).toNat_lt (byteAt s (i + 2)).toNat_lt (byteAt s (i + 3)).toNat_lt hr hp
  have g := guessZ_agree hk1 hk4 (b0 := (byteAt t i').toNat) (b1 := (byteAt t (i' + 1)).toNat) (b2 := (byteAt t (i' + 2)).toNat) (b3 := (byteAt t (i' + 3)).toNat)
    (c0 := (byteAt s i).toNat) (c1 := (byteAt s (i + 1)).toNat) (c2 := (byteAt s (i + 2)).toNat) (c3 := (byteAt s (i + 3)).toNat)
    (by have := hb 0 (by omega); simpa using congrArg UInt8.toNat this) (fun h => congrArg UInt8.toNat (hb 1 (by omega))) (fun h => congrArg UInt8.toNat (hb 2 (by omega))) (fun h => congrArg UInt8.toNat (hb 3 (by omega)))
  rw [← g.1] at hr hp
  rw [← g.2] at hp
  obtain ⟨e2, n2⟩ := hit_dec (n := t.size - i') hk1 hk4 (by omega) (byteAt t i').toNat_lt (byteAt t (i' + 1)).toNat_lt (byteAt t (i' + 2)).toNat_lt (byteAt t (i' + 3)).toNat_lt hr hp
  have e3 : decB t i' = decB s i := by
    unfold decB
    rw [e1, e2, g.1]
  refine ⟨e3, ?_⟩
  unfold okB
  rw [e3]
  exact ho

theorem byteAt_app (a b : ByteArray) (j : Nat) : byteAt (a ++ b) j = if j < a.size then byteAt a j else byteAt b (j - a.size) := by
  have e : (a ++ b).data.toList = a.data.toList ++ b.data.toList := by rw [ByteArray.data_append]; simp
  have ha : a.data.toList.length = a.size := rfl
  unfold byteAt
  rw [e]
  simp only [List.getD, List.getElem?_append, ha]
  split <;> rfl
theorem size_app (a b : ByteArray) : (a ++ b).size = a.size + b.size := ByteArray.size_append

/-- What begins in the second is told as there. -/
theorem decB_second (a b : ByteArray) (j : Nat) : decB (a ++ b) (a.size + j) = decB b j := by
  have hb : ∀ m, byteAt (a ++ b) (a.size + m) = byteAt b m := fun m => by
    rw [byteAt_app, if_neg (by omega)]
    congr 1; omega
  unfold decB
  rw [size_app, hb, Nat.add_assoc, hb, Nat.add_assoc, hb, Nat.add_assoc, hb]
  congr 1; omega

theorem chrs_first (a b : ByteArray) : ∀ (f i : Nat) (l : List Nat), a.size - i ≤ f → i ≤ a.size → (chrsFrom a f i).2 = none → Reach (a ++ b) l i → Reach (a ++ b) (l ++ (chrsFrom a f i).1) a.size := by
  intro f
  induction f with
  | zero =>
    intro i l hf hi _ hr
    obtain rfl : i = a.size := by omega
    simpa [chrsFrom] using hr
  | succ f ih =>
    intro i l hf hi hn hr
    unfold chrsFrom at hn ⊢
    by_cases hlt : i < a.size
    · rw [if_pos hlt] at hn ⊢
      by_cases ho : okB a i = true
      · rw [if_pos ho] at hn ⊢
        have hd := decB_bounds a i hlt
        have hm := decB_more (s := a) (t := a ++ b) (i := i) (i' := i) hlt (by rw [size_app]; omega) ho (fun j hj => by rw [byteAt_app, if_pos (by omega)])
        have hs := hr.step (by rw [size_app]; omega) hm.2
        rw [hm.1] at hs
        have := ih (i + (decB a i).2) _ (by omega) (by omega) hn hs
        simpa using this
      · rw [if_neg ho] at hn
        simp at hn
    · rw [if_neg hlt]
      obtain rfl : i = a.size := by omega
      simpa using hr

theorem chrs_second (a b : ByteArray) : ∀ (f j : Nat) (l : List Nat), b.size - j ≤ f → j ≤ b.size → Reach (a ++ b) l (a.size + j) → chrs (a ++ b) = (l ++ (chrsFrom b f j).1, (chrsFrom b f j).2.map (a.size + ·)) := by
  intro f
  induction f with
  | zero =>
    intro j l hf hj hr
    obtain rfl : j = b.size := by omega
    rw [hr.done (by rw [size_app]; omega)]
    simp [chrsFrom]
  | succ f ih =>
    intro j l hf hj hr
    unfold chrsFrom
    by_cases hlt : j < b.size
    · rw [if_pos hlt]
      have hd := decB_bounds b j hlt
      have he := decB_second a b j
      have heo : okB (a ++ b) (a.size + j) = okB b j := by unfold okB; rw [he]
      by_cases ho : okB b j = true
      · rw [if_pos ho]
        have hs := hr.step (by rw [size_app]; omega) (heo.trans ho)
        rw [he, Nat.add_assoc] at hs
        have := ih (j + (decB b j).2) _ (by omega) (by omega) hs
        simpa using this
      · rw [if_neg ho, hr.bad (by rw [size_app]; omega) (by rw [heo]; exact Bool.not_eq_true _ ▸ ho)]
        simp
    · rw [if_neg hlt]
      obtain rfl : j = b.size := by omega
      rw [hr.done (by rw [size_app]; omega)]
      simp

theorem chrs_join (a b : ByteArray) (ha : (chrs a).2 = none) : chrs (a ++ b) = ((chrs a).1 ++ (chrs b).1, (chrs b).2.map (a.size + ·)) := by
  have h1 := chrs_first a b a.size 0 [] (by omega) (by omega) ha (Reach.zero _)
  have h2 := chrs_second a b b.size 0 _ (by omega) (by omega) h1
  rw [h2]
  simp [chrs]
theorem chrs_len (s : ByteArray) : (chrs s).1.length ≤ s.size := by
  have : ∀ f i, i ≤ s.size → (chrsFrom s f i).1.length ≤ s.size - i := by
    intro f
    induction f with
    | zero => intro i _; simp [chrsFrom]
    | succ f ih =>
      intro i hi
      unfold chrsFrom
      split
      · split
        · have hd := decB_bounds s i (by assumption)
          have := ih (i + (decB s i).2) (by omega)
          simp only [List.length_cons]; omega
        · simp
      · simp
  simpa [chrs] using this s.size 0 (by omega)
end Go.Proofs.YtbonnmkkacplgaaGreatDoor

/- Plain facts on rows of bytes. -/
namespace Go.Proofs.YtbonnmkkacplgaaGreatDoor

theorem ba_ext {a b : ByteArray} (h : a.data.toList = b.data.toList) : a = b := by
  cases a; cases b; simp only [ByteArray.mk.injEq]; exact Array.toList_inj.1 h

theorem data_append (a b : ByteArray) : (a ++ b).data.toList = a.data.toList ++ b.data.toList := by
  rw [ByteArray.data_append]; exact Array.toList_append

end Go.Proofs.YtbonnmkkacplgaaGreatDoor
