/- The reference's values of chapter 19. -/
import Derived.Test.YtkgifenidmbdkaaGreatDoorSubstMatchesM18
import Derived.Test.YtkgifenidmbdkaaGreatDoorSubstMatchesM14
import Derived.Test.YtkgifenidmbdkaaGreatDoorSubstMatchesM19
import Derived.Test.YtkgifenidmbdkaaGreatDoorSubstMatchesM10
import Derived.Laws.BitsLemmas
import Derived.Test.YtkgifenidmbdkaaGreatDoorSubstMatchesM5
import Derived.Test.YtkgifenidmbdkaaGreatDoorSubstMatchesM16
import Derived.Test.YtkgifenidmbdkaaGreatDoorSubstMatchesM11

namespace Go.Proofs.YtkgifenidmbdkaaGreatDoor
open Go.RowKit

/-- The places ahead of i that are told. -/
def valF (fold : Bool) (cs : List Nat) (l : List ByteArray) (ends : Nat → Bool) (i j : Nat) : Bool := if j < i then valR fold cs l ends j else false
def valI (fold : Bool) (cs : List Nat) (l : List ByteArray) (ends : Nat → Bool) (i : Nat) (c : Bool) (j : Nat) : Bool := if j = i then c else valF fold cs l ends i j
theorem valI_end {fold : Bool} {cs : List Nat} {l : List ByteArray} {ends : Nat → Bool} {i : Nat} {c : Bool} (h : c = valR fold cs l ends i) (j : Nat) : valI fold cs l ends i c j = valF fold cs l ends (i + 1) j := by
  unfold valI valF
  by_cases hj : j = i
  · subst hj; rw [if_pos rfl, if_pos (by omega), h]
  · rw [if_neg hj]
    by_cases h2 : j < i
    · rw [if_pos h2, if_pos (by omega)]
    · rw [if_neg h2, if_neg (by omega)]
theorem valI_start {fold : Bool} {cs : List Nat} {l : List ByteArray} {ends : Nat → Bool} {i : Nat} (j : Nat) : valI fold cs l ends i false j = valF fold cs l ends i j := by
  unfold valI valF
  by_cases hj : j = i
  · subst hj; rw [if_pos rfl, if_neg (by omega)]
  · rw [if_neg hj]
theorem valI_set {w : World} {g n i : Nat} {t : TypeId} {fold : Bool} {cs : List Nat} {l : List ByteArray} {ends : Nat → Bool} {c d : Bool} (h : w.rowIs g t n (fun j => if j = i then .bool d else boolsF (valI fold cs l ends i c) j)) : w.rowIs g t n (boolsF (valI fold cs l ends i d)) := h.congr fun j _ => by
  show _ = Value.bool _
  by_cases hj : j = i
  · subst hj
    rw [if_pos rfl]
    unfold valI
    rw [if_pos rfl]
  · rw [if_neg hj]
    show Value.bool (valI _ _ _ _ _ _ _) = _
    unfold valI
    rw [if_neg hj, if_neg hj]
def anyT (fold : Bool) (cs : List Nat) (l : List ByteArray) (i k n : Nat) : Bool := (l.take n).any fun v => matchB v (cutS cs i k) fold
theorem anyT_succ {fold : Bool} {cs : List Nat} {l : List ByteArray} {i k n : Nat} {s : ByteArray} (h : l[n]? = some s) : anyT fold cs l i k (n + 1) = (anyT fold cs l i k n || matchB s (cutS cs i k) fold) := by
  unfold anyT
  rw [List.take_add_one, h, List.any_append]
  simp
theorem anyT_yes {fold : Bool} {cs : List Nat} {l : List ByteArray} {i k n : Nat} (h : anyT fold cs l i k n = true) : (l.any fun v => matchB v (cutS cs i k) fold) = true := by
  unfold anyT at h
  obtain ⟨v, hv, h2⟩ := List.any_eq_true.1 h
  exact List.any_eq_true.2 ⟨v, List.mem_of_mem_take hv, h2⟩
theorem anyT_all {fold : Bool} {cs : List Nat} {l : List ByteArray} {i k : Nat} : anyT fold cs l i k l.length = (l.any fun v => matchB v (cutS cs i k) fold) := by
  unfold anyT; rw [List.take_length]
set_option maxHeartbeats 6400000 in
set_option maxRecDepth 100000 in
theorem ref19_values (u : Value) (l : List ByteArray) (a : Option Addr) (cap ge c1 : Nat) (cs : List Nat) (ends : Nat → Bool) (fold : Bool) (w : World) (hv : StrsV w u l) (hsl : CharsSl w a cs) (hcs : ∀ c ∈ cs, rightC c) (hn : cs.length ≤ 4194304) (hc : cs.length ≤ cap) (hcm : cap ≤ maxLen) (hr : w.rowIs ge 4 (cs.length + 1) (boolsF ends)) (hl : l.length ≤ 16777216) (hls : ∀ s ∈ l, s.size ≤ 16777216) :
    Calls Tryz.prog 85 #[u, .slice a cs.length cap, .slice (some ⟨ge, 0, none⟩) (cs.length + 1) c1, .bool fold] w (StepPost cs.length (valR fold cs l ends) w) := by
  obtain ⟨pa, pcap, rfl, hpc, hpl⟩ := hv
  have hmk := make_bools cs.length (by omega)
  have hrn := World.rowIs_made w (.bool false) (cs.length + 1) 4
  have hst := (Below.refl w.heap.size w).alloc (Nat.le_refl _) (.cells (madeCells #[.bool false] (cs.length + 1)) 4)
  have hr1 := row_below hr hst
  have hpl1 : ∀ (i : Nat) s, l[i]? = some s → ∃ b off, pa = some ⟨b, off, none⟩ ∧ b < w.heap.size ∧ (w.alloc (.cells (madeCells #[.bool false] (cs.length + 1)) 4)).cell? ⟨b, off + i, none⟩ = some (.string s) := fun i s hs => by
    obtain ⟨b, off, e, hb, hce⟩ := hpl i s hs
    exact ⟨b, off, e, hb, (hst.cell (p := ⟨b, off + i, none⟩) hb).trans hce⟩
  have hgel := hr.lt
  have HLS := Lib.hid hls
  have HCS := Lib.hid hcs
  have HPL := Lib.hid hpl1
  have HSL := Lib.hid hsl
  have hw1 : (w.alloc (.cells (madeCells #[.bool false] (cs.length + 1)) 4)).heap.size = w.heap.size + 1 := by simp
  clear hr hsl hpl hpl1 hls hcs
  go_enter Tryz.func85, Tryz.ntmps85
  go_wp2_with fail
  generalize w.alloc (.cells (madeCells #[.bool false] (cs.length + 1)) 4) = w1 at *
  clear hmk
  go_loopw [10] (fun x wr => ∃ i : Nat, i ≤ cs.length + 1 ∧ x = .int .i64 i ∧ wr.rowIs w.heap.size 4 (cs.length + 1) (boolsF (valF fold cs l ends i)) ∧ w1.grownBy wr (some w.heap.size)) (fun x _ => cs.length + 1 - (intOf x).toNat)
  case atStart => exact ⟨0, Nat.zero_le _, rfl, hrn.congr fun j _ => by show Value.bool false = Value.bool (valF fold cs l ends 0 j); unfold valF; rw [if_neg (by omega)], grown_refl _ _⟩
  case round =>
    obtain ⟨i, hil, rfl, hrr, hgr⟩ := hrel
    clear hrn
    by_cases hlt : i < cs.length + 1
    · have hltI : (i : Int) < (cs.length : Int) + 1 := by omega
      have hrr2 := hrr.congr (g := boolsF (valI fold cs l ends i (valT fold cs l ends i i))) (fun j _ => by show Value.bool _ = Value.bool _; rw [valT_low (Nat.le_refl _), valI_start])
      clear hrr
      go_wp2_with fail
      generalize wr = w2 at *
      go_loopw [11] (fun x wr => ∃ k : Nat, i ≤ k ∧ k ≤ cs.length + 1 ∧ x = .int .i64 k ∧ wr.rowIs w.heap.size 4 (cs.length + 1) (boolsF (valI fold cs l ends i (valT fold cs l ends i k))) ∧ w1.grownBy wr (some w.heap.size)) (fun x _ => cs.length + 1 - (intOf x).toNat)
      case atStart => exact ⟨i, Nat.le_refl _, by omega, rfl, hrr2, hgr⟩
      case round =>
        obtain ⟨k, hik, hkl, rfl, hrk, hgk⟩ := hrel
        clear hrr2 hgr
        have ci := hrk.cell (i := i) hlt
        have e1 : boolsF (valI fold cs l ends i (valT fold cs l ends i k)) i = .bool (valT fold cs l ends i k) := by show Value.bool (if i = i then _ else _) = _; rw [if_pos rfl]
        rw [e1] at ci
        clear e1
        have hgl := hrk.lt
        by_cases hkt : k < cs.length + 1
        · have hkI : (k : Int) < (cs.length : Int) + 1 := by omega
          cases hcur : valT fold cs l ends i k with
          | true =>
            have hfin := hrk.congr (g := boolsF (valF fold cs l ends (i + 1))) (fun j _ => by
              show Value.bool _ = Value.bool _
              rw [hcur, valI_end (show true = valR fold cs l ends i from (valT_yes (by omega) hcur).symm)])
            rw [hcur] at ci
            have HF := Lib.hid hfin
            clear hfin hrk hcur
            go_wp2_with fail
            go_roundw
            case rel => exact ⟨i + 1, by omega, by go_num, HF.out, hgk⟩
            case measure => simp [intOf]; omega
          | false =>
            rw [hcur] at ci hrk
            have hrk2 := hrk.congr (g := boolsF (valI fold cs l ends i (ends k && anyT fold cs l i k 0))) (fun j _ => by
              show Value.bool _ = Value.bool _
              unfold anyT; rw [List.take_zero, List.any_nil, Bool.and_false])
            have hstep : ∀ b, (ends k && l.any fun v => matchB v (cutS cs i k) fold) = b → valT fold cs l ends i (k + 1) = b := fun b h => by rw [valT_succ hik, hcur, h, Bool.false_or]
            have HST := Lib.hid hstep
            clear hrk hstep hcur
            go_wp2_with fail
            generalize wr = w3 at *
            clear ci hgl
            go_loopw [12] (fun x wr => ∃ n : Nat, n ≤ l.length ∧ x = .int .i64 n ∧ wr.rowIs w.heap.size 4 (cs.length + 1) (boolsF (valI fold cs l ends i (ends k && anyT fold cs l i k n))) ∧ w1.grownBy wr (some w.heap.size)) (fun x _ => l.length - (intOf x).toNat)
            case atStart => exact ⟨0, Nat.zero_le _, rfl, hrk2, hgk⟩
            case round =>
              obtain ⟨n, hnl, rfl, hrn, hgn⟩ := hrel
              clear hrk2 hgk
              have ci := hrn.cell (i := i) hlt
              have e1 : boolsF (valI fold cs l ends i (ends k && anyT fold cs l i k n)) i = .bool (ends k && anyT fold cs l i k n) := by show Value.bool (if i = i then _ else _) = _; rw [if_pos rfl]
              rw [e1] at ci
              clear e1
              have hgl := hrn.lt
              have hre := rowIs_far hr1 hgn (by simp; omega)
              have ce := hre.cell (i := k) hkt
              have hgel2 := hre.lt
              have e2 : boolsF ends k = .bool (ends k) := rfl
              rw [e2] at ce
              clear e2 hre
              by_cases hnt : n < l.length
              · have hnI : (n : Int) < (l.length : Int) := by omega
                cases hek : ends k with
                | false =>
                  rw [hek] at ce ci hrn
                  have HX := Lib.hid (HST.out false (by rw [hek]; rfl))
                  rw [Bool.false_and] at ci hrn
                  have HR := Lib.hid (show wr.rowIs w.heap.size 4 (cs.length + 1) (boolsF (valI fold cs l ends i (valT fold cs l ends i (k + 1)))) by rw [HX.out]; exact hrn)
                  clear hrn HX hek
                  go_wp2_with fail
                  go_roundw
                  case rel => exact ⟨k + 1, by omega, by omega, by go_num, HR.out, hgn⟩
                  case measure => simp [intOf]; omega
                | true =>
                  rw [hek] at ce ci hrn
                  rw [Bool.true_and] at ci hrn
                  have HST2 := Lib.hid (fun b h => HST.out b (by rw [hek, Bool.true_and]; exact h))
                  have HEK := Lib.hid hek
                  clear hek HST
                  cases hcur : anyT fold cs l i k n with
                  | true =>
                    have HX := Lib.hid (HST2.out true (anyT_yes hcur))
                    have HR := Lib.hid (show wr.rowIs w.heap.size 4 (cs.length + 1) (boolsF (valI fold cs l ends i (valT fold cs l ends i (k + 1)))) by rw [HX.out, ← hcur]; exact hrn)
                    rw [hcur] at ci
                    clear hrn HX hcur
                    go_wp2_with fail
                    go_roundw
                    case rel => exact ⟨k + 1, by omega, by omega, by go_num, HR.out, hgn⟩
                    case measure => simp [intOf]; omega
                  | false =>
                    rw [hcur] at ci
                    obtain ⟨s, hs⟩ : ∃ s, l[n]? = some s := ⟨_, List.getElem?_eq_getElem hnt⟩
                    obtain ⟨b, off, rfl, hbw, hce⟩ := HPL.out n s hs
                    have hce2 := (cell_grown hgn (p := ⟨b, off + n, none⟩) (by show b < _; omega) (by show b ≠ _; omega)).trans hce
                    have hgs := hgn.size
                    have hbw2 : b < wr.heap.size := by omega
                    have hnx := anyT_succ (fold := fold) (cs := cs) (i := i) (k := k) hs
                    rw [hcur, Bool.false_or] at hnx
                    have hsz := HLS.out s (List.mem_of_getElem? hs)
                    have hcsz := cutS_size (cs := cs) (i := i) (k := k) (by omega)
                    have HBW : Below w.heap.size w wr := hst.grown hgn (by omega) (fun j hj => by cases hj; omega)
                    have hS : ∀ W, w1.grownBy W (some w.heap.size) → W.cell? ⟨b, off + n, none⟩ = some (.string s) ∧ w1.grownBy W (some w.heap.size) := fun W hb => ⟨(cell_grown hb (p := ⟨b, off + n, none⟩) (by show b < _; omega) (by show b ≠ _; omega)).trans hce, hb⟩
                    have HS := Lib.hid hS
                    have CC := Lib.hid (fun W (hb : w1.grownBy W (some w.heap.size)) => ref19_cut a cap i k cs W (HSL.out.below (hst.grown hb (by omega) (fun j hj => by cases hj; omega))) HCS.out (by omega) hik (by omega) hc hcm)
                    have CM := Lib.hid (fun W => ref_Match s (cutS cs i k) fold W hsz (by omega))
                    have hd := (Below.refl wr.heap.size wr).drew
                    have hd2 := only_drew hgn
                    have HR := Lib.hid hrn
                    have HG := Lib.hid hgn
                    have HNX := Lib.hid hnx
                    clear hS hce hce2 hrn hgn hs hcur hnx HST2 HBW
                    generalize cutS cs i k = T at *
                    go_upto_region 11 with (fail)
                    clear ce
                    first
                    | (go_region_held (fun W => W.cell? ⟨b, off + n, none⟩ = some (.string s) ∧ w1.grownBy W (some w.heap.size)) (first | assumption | exact HS.out _ (by assumption))
                        (first
                        | (go_at_call 126; refine (CC.out _ (by assumption)).mono ?_; rintro e w6 ⟨rfl, hk6⟩; have hk7 := Bt (by assumption) hk6; have hg7 := Bg (by assumption) hk6; dsimp only)
                        | (go_at_call 125; refine (CM.out _).mono ?_; rintro e w8 ⟨rfl, hk8⟩; have hk9 := Bt (by assumption) hk8; have hg9 := Bg (by assumption) hk8; have cn5 := (hk9.cell (p := ⟨w.heap.size, i, none⟩) hgl).trans ci; have hr5 := row_below HR.out hk9; have fz5 := hr5.frozen i; have hgl5 := hr5.lt; have hg10 := only_setCell hg9 (p := ⟨w.heap.size, i, none⟩) (.inl rfl) (.bool (matchB s T fold)); have hr6 := valI_set (hr5.set i (.bool (matchB s T fold))); dsimp only)))
                    | fail
                    all_goals
                      have HR6 := Lib.hid hr6
                      have HG6 := Lib.hid hg10
                      clear hr6 hg10 hr5 hg9 hk9 hk8
                      go_wp2_with fail
                      go_roundw
                      case rel => exact ⟨n + 1, by omega, by go_num, by rw [Bool.true_and, HNX.out]; exact HR6.out, HG6.out⟩
                      case measure => simp [intOf]; omega
              · obtain rfl : n = l.length := by omega
                have hnI : ¬ (l.length : Int) < (l.length : Int) := by omega
                have HX := Lib.hid (HST.out _ rfl)
                have HR := Lib.hid (show wr.rowIs w.heap.size 4 (cs.length + 1) (boolsF (valI fold cs l ends i (valT fold cs l ends i (k + 1)))) by rw [HX.out, ← anyT_all]; exact hrn)
                clear hrn HX HST
                generalize (ends k && anyT fold cs l i k l.length) = cur at *
                go_wp2_with fail
                go_roundw
                case rel => exact ⟨k + 1, by omega, by omega, by go_num, HR.out, hgn⟩
                case measure => simp [intOf]; omega
        · obtain rfl : k = cs.length + 1 := by omega
          have hkI : ¬ ((cs.length + 1 : Nat) : Int) < (cs.length : Int) + 1 := by omega
          have hfin := hrk.congr (g := boolsF (valF fold cs l ends (i + 1))) (fun j _ => by
            show Value.bool _ = Value.bool _
            rw [valI_end (show valT fold cs l ends i (cs.length + 1) = valR fold cs l ends i from rfl)])
          have HF := Lib.hid hfin
          clear hfin hrk ci
          go_wp2_with fail
          go_roundw
          case rel => exact ⟨i + 1, by omega, by go_num, HF.out, hgk⟩
          case measure => simp [intOf]; omega
    · obtain rfl : i = cs.length + 1 := by omega
      have hltI : ¬ ((cs.length + 1 : Nat) : Int) < (cs.length : Int) + 1 := by omega
      go_wp2_with fail
      go_ret
      exact ⟨w.heap.size, rfl, hrr.congr fun j hj => by
        show Value.bool (if j < cs.length + 1 then _ else _) = _
        rw [if_pos hj]; rfl, Nat.le_refl _, hst.grown hgr (by omega) (fun j hj => by cases hj; omega)⟩
end Go.Proofs.YtkgifenidmbdkaaGreatDoor

/- Plain facts: small letters. -/
namespace Go.Proofs.YtkgifenidmbdkaaGreatDoor
open Go.RowKit

def lowerB (b : UInt8) : UInt8 := if 65 ≤ b.toNat ∧ b.toNat ≤ 90 then b + 32 else b
theorem lowerB_nat (b : UInt8) : (lowerB b).toNat = smallN b.toNat := by
  have hb := b.toNat_lt
  unfold lowerB smallN
  split
  · rw [UInt8.toNat_add]
    simp
    omega
  · rfl
theorem lowerB_idem (b : UInt8) : lowerB (lowerB b) = lowerB b := by
  have h := lowerB_nat b
  apply UInt8.toNat_inj.1
  rw [lowerB_nat, h]
  unfold smallN
  repeat' split
  all_goals omega
theorem or_letter (n : Nat) (h1 : 65 ≤ n) (h2 : n ≤ 90) : bits .or .u8 (n : Int) 32 = ((n + 32 : Nat) : Int) := by
  have : ∀ n : Fin 91, 65 ≤ n.1 → bits .or .u8 (n.1 : Int) 32 = ((n.1 + 32 : Nat) : Int) := by decide +kernel
  exact this ⟨n, by omega⟩ h1
/-- A text with small letters. -/
def lowerL (l : List UInt8) : List UInt8 := l.map lowerB
def lowerS (s : ByteArray) : ByteArray := ⟨(lowerL s.data.toList).toArray⟩
theorem lowerS_size (s : ByteArray) : (lowerS s).size = s.size := by
  show (lowerL s.data.toList).toArray.size = s.data.toList.length
  simp [lowerL]
theorem lowerS_idem (s : ByteArray) : lowerS (lowerS s) = lowerS s := by
  unfold lowerS lowerL
  apply ByteArray.ext
  apply Array.ext'
  show (s.data.toList.map lowerB).map lowerB = s.data.toList.map lowerB
  rw [List.map_map]
  exact List.map_congr_left fun x _ => lowerB_idem x
/-- So far small letters. -/
def lowTo (s : ByteArray) (i : Nat) : List UInt8 := lowerL (s.data.toList.take i) ++ s.data.toList.drop i
theorem lowTo_len (s : ByteArray) (i : Nat) : (lowTo s i).length = s.size := by
  have hl : s.data.toList.length = s.size := rfl
  simp [lowTo, lowerL]; omega
theorem lowTo_zero (s : ByteArray) : lowTo s 0 = s.data.toList := by simp [lowTo, lowerL]
theorem lowTo_all (s : ByteArray) : lowTo s s.size = (lowerS s).data.toList := by
  have hl : s.data.toList.length = s.size := rfl
  show lowerL (s.data.toList.take s.size) ++ s.data.toList.drop s.size = lowerL s.data.toList
  rw [List.take_of_length_le (by omega), List.drop_eq_nil_of_le (by omega), List.append_nil]
theorem lowTo_at {s : ByteArray} {i : Nat} (hi : i < s.size) : (lowTo s i).getD i 0 = byteAt s i := by
  have hl : s.data.toList.length = s.size := rfl
  have h1 : (lowerL (s.data.toList.take i)).length = i := by simp [lowerL]; omega
  unfold lowTo byteAt
  simp only [List.getD, List.getElem?_append, h1, Nat.lt_irrefl, if_false, Nat.sub_self, List.getElem?_drop, Nat.add_zero]
theorem lowTo_set {s : ByteArray} {i : Nat} (hi : i < s.size) : (lowTo s i).set i (lowerB (byteAt s i)) = lowTo s (i + 1) := by
  have hl : s.data.toList.length = s.size := rfl
  have hlt : i < s.data.toList.length := by omega
  have h1 : (lowerL (s.data.toList.take i)).length = i := by simp [lowerL]; omega
  have hb : byteAt s i = s.data.toList[i] := by unfold byteAt; rw [List.getD, List.getElem?_eq_getElem hlt]; rfl
  unfold lowTo
  rw [List.set_append_right _ _ (by rw [h1]; exact Nat.le_refl _), h1, Nat.sub_self, List.drop_eq_getElem_cons hlt, List.set_cons_zero, List.take_succ_eq_append_getElem hlt, hb]
  simp [lowerL]
theorem lowTo_keep {s : ByteArray} {i : Nat} (hi : i < s.size) (h : lowerB (byteAt s i) = byteAt s i) : lowTo s (i + 1) = lowTo s i := by
  rw [← lowTo_set hi, h]
  have h2 := lowTo_at hi
  have hll : i < (lowTo s i).length := by rw [lowTo_len]; exact hi
  apply List.ext_getElem?
  intro j
  rw [List.getElem?_set]
  split
  · rename_i e
    subst e
    rw [← h2, List.getD, List.getElem?_eq_getElem hll]; rfl
  · rfl
end Go.Proofs.YtkgifenidmbdkaaGreatDoor

/- fold.Lower, fold.Same; the reference's Lower. -/
namespace Go.Proofs.YtkgifenidmbdkaaGreatDoor
open Go.RowKit

theorem ret_low {s t : ByteArray} (h : t = lowerS s) : Ending.returned (.string t) = .returned (.string (lowerS s)) := by rw [h]

set_option maxHeartbeats 1600000 in
theorem fold_Lower (s : ByteArray) (w : World) (hs : s.size ≤ 140737488351232) : Calls Tryz.prog 157 #[.string s] w fun e w' => e = .returned (.string (lowerS s)) ∧ Below w.heap.size w w' := by
  go_enter Tryz.func157, Tryz.ntmps157
  go_wp2_with ((with_reducible refine wpList_bytes (o := ⟨some 7, _, _, _, _, _⟩) rfl 9 106 5 _ rfl s rfl Tryz.underlying9 Tryz.underlying106 Tryz.underlying5 ?_); intro cap w1 hcap hB hb1 hsz1)
  go_loopw [10] (fun a wr => ∃ i : Nat, i ≤ s.size ∧ a = .int .i64 i ∧ BytesAt wr w.heap.size (lowTo s i) ∧ Below w.heap.size w wr) (fun a _ => s.size - (intOf a).toNat)
  case atStart => exact ⟨0, Nat.zero_le _, rfl, by rw [lowTo_zero]; exact hB, hb1⟩
  case round =>
    obtain ⟨i, hil, rfl, hBr, hbr⟩ := hrel
    by_cases hlt : i < s.size
    · have hc := hBr.cell (k := i) (by rw [lowTo_len]; exact hlt)
      have hfz := hBr.frozen (k := i) (by rw [lowTo_len]; exact hlt)
      rw [lowTo_at hlt] at hc
      have hst := fun b => hBr.store (k := i) (by rw [lowTo_len]; exact hlt) b
      have hset := lowTo_set hlt
      have hkeep := lowTo_keep hlt
      have hnat := lowerB_nat (byteAt s i)
      have hdef : lowerB (byteAt s i) = if 65 ≤ (byteAt s i).toNat ∧ (byteAt s i).toNat ≤ 90 then byteAt s i + 32 else byteAt s i := rfl
      have hb := (byteAt s i).toNat_lt
      generalize byteAt s i = c at *
      by_cases hc1 : 65 ≤ c.toNat
      · by_cases hc2 : c.toNat ≤ 90
        · have hor := or_letter c.toNat hc1 hc2
          have hv : (lowerB c).toNat = c.toNat + 32 := by rw [hnat]; unfold smallN; rw [if_pos ⟨hc1, hc2⟩]
          have h2 := hst (lowerB c)
          rw [hset, hv] at h2
          have H2 := Lib.hid h2
          clear hst hset hkeep hnat hdef hv h2 hBr
          go_wp2_with fail
          go_roundw
          case rel => exact ⟨i + 1, by omega, by go_num, H2.out, hbr.setCell (Nat.le_refl _) _⟩
          case measure => simp [intOf]; omega
        · have hk := hkeep (by rw [hdef, if_neg (by omega)])
          have h2 : BytesAt wr w.heap.size (lowTo s (i + 1)) := by rw [hk]; exact hBr
          have H2 := Lib.hid h2
          clear hst hset hkeep hnat hdef hk h2 hBr
          go_wp2_with fail
          go_roundw
          case rel => exact ⟨i + 1, by omega, by go_num, H2.out, hbr⟩
          case measure => simp [intOf]; omega
      · have hk := hkeep (by rw [hdef, if_neg (by omega)])
        have h2 : BytesAt wr w.heap.size (lowTo s (i + 1)) := by rw [hk]; exact hBr
        have H2 := Lib.hid h2
        clear hst hset hkeep hnat hdef hk h2 hBr
        go_wp2_with fail
        go_roundw
        case rel => exact ⟨i + 1, by omega, by go_num, H2.out, hbr⟩
        case measure => simp [intOf]; omega
    · obtain rfl : i = s.size := by omega
      have hcv := run_back wr 106 9 5 w.heap.size cap _ Tryz.underlying106 Tryz.underlying5 Tryz.underlying9 hBr
      rw [lowTo_len, lowTo_all] at hcv
      clear hBr
      have hcv2 : (convert 106 9 (.slice (some ⟨w.heap.size, 0, none⟩) s.size cap)).run Tryz.prog wr = .ok (.string (lowerS s)) wr := hcv
      clear hcv
      go_wp2_with fail
      go_ret
      exact ⟨rfl, hbr⟩

theorem ref_Small' (c : UInt8) (w : World) : Calls Tryz.prog 129 #[.int .u8 (c.toNat : Int)] w fun e w' => e = .returned (.int .u8 ((lowerB c).toNat : Int)) ∧ w = w' :=
  (ref_Small c.toNat c.toNat_lt w).mono fun _ _ ⟨a, b⟩ => ⟨by rw [a, lowerB_nat], b⟩

theorem one_sl (w : World) (b : UInt8) : BytesSl (w.alloc (.cells #[byteV b] 5)) (.slice (some ⟨w.heap.size, 0, none⟩) 1 1) ⟨#[b]⟩ :=
  BytesSl.lit w [b] _ 1 rfl rfl (by simp)

set_option maxHeartbeats 1600000 in
theorem ref_Lower (s : ByteArray) (w : World) (hs : s.size ≤ 16777216) : Calls Tryz.prog 128 #[.string s] w fun e w' => e = .returned (.string (lowerS s)) ∧ Below w.heap.size w w' := by
  go_enter Tryz.func128, Tryz.ntmps128
  go_wp2_with fail
  go_loopw [3, 4] (fun v a wr => ∃ i : Nat, i ≤ s.size ∧ a = .int .i64 i ∧ OwnB wr w.heap.size v (lowerL (s.data.toList.take i)) ∧ Below w.heap.size w wr) (fun _ a _ => s.size - (intOf a).toNat)
  case atStart => exact ⟨0, Nat.zero_le _, rfl, OwnB.lit w [] #[] 0 rfl rfl (Nat.le_refl _) (by simp), (Below.refl _ _).alloc (Nat.le_refl _) _⟩
  case round =>
    rename_i u3
    obtain ⟨i, hil, rfl, hown, hbr⟩ := hrel
    have hl : s.data.toList.length = s.size := rfl
    by_cases hlt : i < s.size
    · have hb : byteAt s i = s.data.toList[i]'(by omega) := by unfold byteAt; rw [List.getD, List.getElem?_eq_getElem (by omega)]; rfl
      have hst : lowerL (s.data.toList.take i) ++ [lowerB (byteAt s i)] = lowerL (s.data.toList.take (i + 1)) := by
        rw [hb, List.take_succ_eq_append_getElem (by omega)]; simp [lowerL]
      have hlen : (lowerL (s.data.toList.take i)).length = i := by simp [lowerL]; omega
      generalize hd : lowerL (s.data.toList.take i) = done at *
      have HST := Lib.hid hst
      have hbk : s[i] = byteAt s i := by simp [byteAt, List.getD, hlt]; rfl
      have HBK := Lib.hid hbk
      clear hst hd hb hbk
      go_wp2_with fail
      rw [HBK.out]
      generalize byteAt s i = c at *
      refine (ref_Small' c _).mono ?_
      rintro e w2 ⟨rfl, rfl⟩
      generalize lowerB c = d at *
      have hbf : Below wr.heap.size wr (wr.alloc (.cells #[byteV d] 5)) := (Below.refl _ _).alloc (Nat.le_refl _) _
      have hown2 := hown.below hbf
      have hbr2 := Bt hbr hbf
      clear hown hbf
      have hy := one_sl wr d
      go_wp2_with (at_builtin; refine wpList_app_bytes rfl _ _ rfl w.heap.size _ _ rfl hown2 _ ⟨#[d]⟩ rfl hy (by rw [hlen]; show i + 1 ≤ _; omega) hbr2.size ?_)
      intro v3 w3 hown3 hgr
      have hb3 := hown2.under hbr2 (Nat.le_refl _) hgr
      have ht : done ++ (⟨#[d]⟩ : ByteArray).data.toList = lowerL (s.data.toList.take (i + 1)) := HST.out
      rw [ht] at hown3
      clear ht hgr hown2 hy hbr2
      go_wp2_with fail
      go_roundw
      case rel => exact ⟨i + 1, by omega, by go_num, hown3, hb3⟩
      case measure => simp [intOf]; omega
    · obtain rfl : i = s.size := by omega
      rw [← hl, List.take_length] at hown
      have hcv : (convert 106 9 u3).run Tryz.prog wr = .ok (.string (lowerS s)) wr := hown.conv
      clear hown
      go_wp2_with fail
      go_ret
      exact ⟨rfl, hbr⟩
end Go.Proofs.YtkgifenidmbdkaaGreatDoor

/- Plain: the reference's characters of a class are the code's. -/
namespace Go.Proofs.YtkgifenidmbdkaaGreatDoor
open Go.RowKit

theorem has_iff {s : ByteArray} {c : UInt8} : hasB s c = true ↔ ∃ i, i < s.size ∧ byteAt s i = c := by
  unfold hasB
  rw [List.any_eq_true]
  constructor
  · rintro ⟨i, hi, h⟩; exact ⟨i, List.mem_range.1 hi, by simpa using h⟩
  · rintro ⟨i, hi, h⟩; exact ⟨i, List.mem_range.2 hi, by simpa using h⟩
theorem low_turn : ∀ c : Fin 128, isLet c.1 = true → ∀ b : Fin 256, (lowerB (UInt8.ofNat b.1) = lowerB (UInt8.ofNat c.1) ↔ (b.1 = c.1 ∨ b.1 = turnC c.1)) := by decide +kernel
theorem low_turn_nat {c : Nat} (hc : isLet c = true) (b : UInt8) : lowerB b = lowerB (UInt8.ofNat c) ↔ (b.toNat = c ∨ b.toNat = turnC c) := by
  have := low_turn ⟨c, by
    by_cases h : c < 128
    · exact h
    · rw [let_small (by omega)] at hc; cases hc⟩ hc ⟨b.toNat, b.toNat_lt⟩
  simpa using this
theorem byte_low (s : ByteArray) (i : Nat) (hi : i < s.size) : byteAt (lowerS s) i = lowerB (byteAt s i) := by
  have hl : s.data.toList.length = s.size := rfl
  unfold byteAt lowerS lowerL
  simp [List.getD, List.getElem?_map, List.getElem?_eq_getElem (show i < s.data.toList.length by omega)]
/-- Whether a character is one of a class, as the reference has it. -/
def amB (fold : Bool) (list : ByteArray) (c : Nat) : Bool := if 127 < c then false else if (fold && isLet c) = true then hasB (lowerS list) (lowerB (UInt8.ofNat c)) else hasB list (UInt8.ofNat c)
theorem am_within (fold : Bool) (list : ByteArray) (c : Nat) : amB fold list c = withinB fold list c := by
  unfold amB withinB
  by_cases h : c < 128
  · rw [if_neg (by omega), decide_eq_true h, Bool.true_and]
    cases fold with
    | false => simp
    | true =>
      simp only [Bool.true_and]
      cases hl : isLet c with
      | false => rw [if_neg (by decide), turn_other hl, Bool.or_self]
      | true =>
        rw [if_pos rfl, Bool.eq_iff_iff, Bool.or_eq_true, has_iff, has_iff, has_iff, lowerS_size]
        have e1 : (UInt8.ofNat c).toNat = c := by simp; omega
        have e2 : (UInt8.ofNat (turnC c)).toNat = turnC c := by have := turn_lt h; simp; omega
        constructor
        · rintro ⟨i, hi, hb⟩
          rw [byte_low list i hi, low_turn_nat hl] at hb
          rcases hb with hb | hb
          · exact .inl ⟨i, hi, UInt8.toNat_inj.1 (by rw [hb, e1])⟩
          · exact .inr ⟨i, hi, UInt8.toNat_inj.1 (by rw [hb, e2])⟩
        · rintro (⟨i, hi, hb⟩ | ⟨i, hi, hb⟩)
          · exact ⟨i, hi, by rw [byte_low list i hi, low_turn_nat hl, hb, e1]; exact .inl rfl⟩
          · exact ⟨i, hi, by rw [byte_low list i hi, low_turn_nat hl, hb, e2]; exact .inr rfl⟩
  · rw [if_pos (by omega), decide_eq_false h, Bool.false_and]
end Go.Proofs.YtkgifenidmbdkaaGreatDoor
