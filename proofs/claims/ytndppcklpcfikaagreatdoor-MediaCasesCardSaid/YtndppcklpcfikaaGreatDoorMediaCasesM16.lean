/- media.Text. -/
import Derived.Test.YtndppcklpcfikaaGreatDoorMediaCasesM8
import Derived.Test.YtndppcklpcfikaaGreatDoorMediaCasesM13
import Derived.Test.YtndppcklpcfikaaGreatDoorMediaCasesM15
import Derived.Deep.RegionLaw
import Derived.Test.YtndppcklpcfikaaGreatDoorMediaCasesM4
import Derived.Laws.StructEq
import Derived.Deep.QuietTactic
import Derived.BigQuiet
import Derived.Test.YtndppcklpcfikaaGreatDoorMediaCasesM9

namespace Go.Proofs.YtndppcklpcfikaaGreatDoor
open Go.RowKit

set_option maxHeartbeats 3200000 in
set_option maxRecDepth 100000 in
theorem media_Text (a b : ByteArray) (pa : Option Addr) (pc : Nat) (l : List It) (w : World) (hsl : ItemsSl w pa l) (hl : l.length ≤ 30) (ha : a.size ≤ 1000) (hb : b.size ≤ 1000) (hz : ∀ x ∈ l, x.name.size ≤ 1000 ∧ x.value.size ≤ 1000) :
    Calls Tryz.prog 10 #[.agg #[.string a, .string b, .slice pa l.length pc]] w fun e w' => e = .returned (.string (ofL (mtxt ⟨a, b, l⟩))) ∧ Below w.heap.size w w' := by
  have hm1 : MediaAt (w.alloc (.cells #[.string a, .string b, .slice pa l.length pc] 24)) w.heap.size a b pa l.length pc := MediaAt.new
  have hst1 := (Below.refl w.heap.size w).alloc (Nat.le_refl _) (.cells #[.string a, .string b, .slice pa l.length pc] 24)
  have hs1 := hsl.below hst1
  obtain ⟨k0, k1, k2⟩ := hm1.cells
  have HLEN := Lib.hid (fun i => txS_len (i := i) ha hb hl hz)
  have HALL := Lib.hid (txS_all a b l)
  have HZ := Lib.hid hz
  have HSL := Lib.hid hs1
  have h0 : ofL (txS a b l 0) = a ++ (⟨#[47]⟩ : ByteArray) ++ b := by
    rw [txS_zero]
    conv => rhs; rw [ofL_toList a, ofL_toList b]
    show _ = ofL a.data.toList ++ ofL [47] ++ ofL b.data.toList
    rw [ofL_app, ofL_app]
    simp
  have H0 := Lib.hid h0
  have hz1 : (a ++ (⟨#[47]⟩ : ByteArray)).size = a.size + 1 := by rw [ByteArray.size_append]; rfl
  clear hm1 hsl hs1 hz h0
  go_enter Tryz.func10, Tryz.ntmps10
  go_wp2_with fail
  go_loopw [3, 15] (fun v x wr => ∃ i : Nat, i ≤ l.length ∧ x = .int .i64 i ∧ v = .string (ofL (txS a b l i)) ∧ Below w.heap.size w wr ∧ Below (w.alloc (.cells #[.string a, .string b, .slice pa l.length pc] 24)).heap.size (w.alloc (.cells #[.string a, .string b, .slice pa l.length pc] 24)) wr) (fun _ x _ => l.length - (intOf x).toNat)
  case atStart => exact ⟨0, Nat.zero_le _, rfl, by rw [H0.out], hst1, Below.refl _ _⟩
  case round =>
    obtain ⟨i, hil, rfl, rfl, hbr, hbr2⟩ := hrel
    by_cases hlt : i < l.length
    · obtain ⟨p, hx⟩ : ∃ p, l[i]? = some p := ⟨_, List.getElem?_eq_getElem hlt⟩
      obtain ⟨g, off, rfl, hg, d0, d1, d2⟩ := (HSL.out.below hbr2) i p hx
      obtain ⟨hz1, hz2⟩ := HZ.out p (List.mem_of_getElem? hx)
      have hstep := txS_step (a := a) (b := b) hx
      have hlen1 := HLEN.out i
      have hvl := valT_len p.value
      obtain ⟨pn, pv, ph⟩ := p
      dsimp only at hz1 hz2 hvl d0 d1 d2
      have hiI : (i : Int) < (l.length : Int) := by omega
      have hstA : Below wr.heap.size wr (wr.alloc (.cells #[.string pn, .string pv, .bool ph] 37)) := (Below.refl _ _).alloc (Nat.le_refl _) _
      have hitA : ItemAt (wr.alloc (.cells #[.string pn, .string pv, .bool ph] 37)) wr.heap.size pn pv ph := ItemAt.new
      have hbA := Bt hbr hstA
      have hbA2 := hbr2.trans (hstA.mono hbr2.size)
      have cV := Lib.hid (fun W => media_value pv W (by omega))
      have hS : ∀ W, Below (wr.alloc (.cells #[.string pn, .string pv, .bool ph] 37)).heap.size (wr.alloc (.cells #[.string pn, .string pv, .bool ph] 37)) W → W.cell? ⟨wr.heap.size, 0, none⟩ = some (.string pn) ∧ W.cell? ⟨wr.heap.size, 1, none⟩ = some (.string pv) ∧ Below (wr.alloc (.cells #[.string pn, .string pv, .bool ph] 37)).heap.size (wr.alloc (.cells #[.string pn, .string pv, .bool ph] 37)) W := fun W hb =>
        ⟨(hitA.below hb).cells.1, (hitA.below hb).cells.2.1, hb⟩
      have HS := Lib.hid hS
      have hd := (Below.refl (wr.alloc (.cells #[.string pn, .string pv, .bool ph] 37)).heap.size (wr.alloc (.cells #[.string pn, .string pv, .bool ph] 37))).drew
      have hfin : ofL (txS a b l (i + 1)) = ofL (txS a b l i) ++ ((⟨#[59, 32]⟩ : ByteArray) ++ pn ++ ⟨#[61]⟩ ++ ofL (valT pv)) := by
        rw [hstep, ← ofL_app]
        congr 1
        conv => rhs; rw [ofL_toList pn]
        show ofL (59 :: 32 :: (pn.data.toList ++ 61 :: valT pv)) = ofL [59, 32] ++ ofL pn.data.toList ++ ofL [61] ++ ofL (valT pv)
        rw [ofL_app, ofL_app, ofL_app]
        simp
      have HFIN := Lib.hid hfin
      have hV := ofL_size (valT pv)
      have hT := ofL_size (txS a b l i)
      have sV : (ofL (valT pv)).size ≤ 3000 := by omega
      have sT : (ofL (txS a b l i)).size ≤ 100000 := by omega
      clear hx hstep hlen1 hvl hS hfin hV hT hstA k0 k1 k2
      generalize ofL (valT pv) = V at *
      generalize ofL (txS a b l i) = T at *
      have n1 : ¬ 9223372036854775807 < 2 + pn.size := by omega
      have n2 : ¬ 9223372036854775807 < 2 + pn.size + 1 := by omega
      have n3 : ¬ 9223372036854775807 < 2 + pn.size + 1 + V.size := by omega
      have n4 : ¬ 9223372036854775807 < T.size + (2 + pn.size + 1 + V.size) := by omega
      go_upto_region 5 with (fail)
      obtain ⟨e0, e1, _⟩ := hitA.cells
      have e0' : (wr.alloc (.cells #[.string pn, .string pv, .bool ph] 37)).drew.cell? ⟨wr.heap.size, 0, none⟩ = some (.string pn) := e0
      have e1' : (wr.alloc (.cells #[.string pn, .string pv, .bool ph] 37)).drew.cell? ⟨wr.heap.size, 1, none⟩ = some (.string pv) := e1
      go_region_law (go_simp; go_at_call 26; refine (cV.out _).mono ?_; rintro e w6 ⟨rfl, hk6⟩; have hk7 := Bt hd hk6; obtain ⟨f0, f1, _⟩ := HS.out _ hk7; dsimp only)
      all_goals
        have hbE := Bt hbA hk7
        have hbE2 := hbA2.trans (hk7.mono hbA2.size)
        clear hbA hbA2 hk6 hk7 e0 e1 e0' e1' f0 f1 hitA hd HS cV n1 n2 n3 n4
        go_wp2_with fail
        go_roundw
        case rel => exact ⟨i + 1, by omega, by go_num, by rw [HFIN.out], hbE, hbE2⟩
        case measure => simp [intOf]; omega
    · obtain rfl : i = l.length := by omega
      go_wp2_with fail
      go_ret
      exact ⟨ret_str (by rw [← HALL.out]), hbr⟩
end Go.Proofs.YtndppcklpcfikaaGreatDoor

/- Items, compared; two rows of items. -/
namespace Go.Proofs.YtndppcklpcfikaaGreatDoor
open Go.RowKit

def itemV (x : It) : Value := .agg #[.string x.name, .string x.value, .bool x.has]
theorem toList_eqB (a b : ByteArray) : (a.toList = b.toList) = (a = b) := by
  have h := str_eqB a b
  rw [Bool.eq_iff_iff] at h
  simpa using h
theorem neq_item (n v : ByteArray) (b : Bool) (n' v' : ByteArray) (b' : Bool) (w : World) : (binOp .neq 37 (.agg #[.string n, .string v, .bool b]) (.agg #[.string n', .string v', .bool b'])).run Tryz.prog w = .ok (.bool (!decide ((⟨n, v, b⟩ : It) = ⟨n', v', b'⟩))) w := by
  have u9 := Tryz.underlying9
  have u4 := Tryz.underlying4
  have z9 := Tryz.sizeOf9
  have z4 := Tryz.sizeOf4
  have a9 := Tryz.isAgg9
  have a4 := Tryz.isAgg4
  have hS : Tryz.prog.underlying 37 = some (.struct (Tryz.prog.fieldsOf 37)) := by kernel_rfl
  have hp : Tryz.prog.stoodInHeld 37 = false := by kernel_rfl
  rw [run_neq_struct, show (10000 : Nat) = 9999 + 1 from rfl, run_equalIn_agg w 9999 37 _ _ hS hp]
  simp only [Program.fieldsOf, Tryz.underlying37]
  go_simp
  simp only [toList_eqB]
  by_cases h1 : n = n'
  · by_cases h2 : v = v'
    · by_cases h3 : b = b'
      · simp [h1, h2, h3]
      · simp [h1, h2, h3]
    · simp [h1, h2]
  · simp [h1]

end Go.Proofs.YtndppcklpcfikaaGreatDoor

/- The reference of chapter 17: Same, of two kinds that are one. -/
namespace Go.Proofs.YtndppcklpcfikaaGreatDoor
open Go.RowKit

set_option maxHeartbeats 3200000 in
set_option maxRecDepth 100000 in
theorem ref17_Same (a b : ByteArray) (p1 : Option Addr) (c1 : Nat) (p2 : Option Addr) (c2 : Nat) (l : List It) (w : World) (h1 : ItemsSl w p1 l) (h2 : ItemsSl w p2 l) (hl : l.length ≤ 16777216) :
    Calls Tryz.prog 16 #[.agg #[.string a, .string b, .slice p1 l.length c1], .agg #[.string a, .string b, .slice p2 l.length c2]] w fun e w' => e = .returned (.bool true) ∧ Below w.heap.size w w' := by
  have hm1 : MediaAt (w.alloc (.cells #[.string a, .string b, .slice p1 l.length c1] 24)) w.heap.size a b p1 l.length c1 := MediaAt.new
  have hst1 := (Below.refl w.heap.size w).alloc (Nat.le_refl _) (.cells #[.string a, .string b, .slice p1 l.length c1] 24)
  have hm2 : MediaAt ((w.alloc (.cells #[.string a, .string b, .slice p1 l.length c1] 24)).alloc (.cells #[.string a, .string b, .slice p2 l.length c2] 24)) (w.heap.size + 1) a b p2 l.length c2 := by
    have := MediaAt.new (w := w.alloc (.cells #[.string a, .string b, .slice p1 l.length c1] 24)) (n := a) (v := b) (pa := p2) (l := l.length) (c := c2)
    rw [World.size_alloc] at this
    exact this
  have hst2 := (Below.refl (w.alloc (.cells #[.string a, .string b, .slice p1 l.length c1] 24)).heap.size (w.alloc (.cells #[.string a, .string b, .slice p1 l.length c1] 24))).alloc (Nat.le_refl _) (.cells #[.string a, .string b, .slice p2 l.length c2] 24)
  have hm1' := hm1.below hst2
  have hb2 := Bt hst1 hst2
  have hs1 := h1.below hb2
  have hs2 := h2.below hb2
  obtain ⟨k0, k1, k2⟩ := hm1'.cells
  obtain ⟨j0, j1, j2⟩ := hm2.cells
  have ea : (a.toList != a.toList) = false := bne_self_eq_false _
  have eb : (b.toList != b.toList) = false := bne_self_eq_false _
  have el : ((l.length : Int) != (l.length : Int)) = false := bne_self_eq_false _
  clear hm1 hm2 hm1' hst1 hst2 h1 h2
  go_enter Tryz.func16, Tryz.ntmps16
  go_wp2_with fail
  go_loopw [5] (fun x wr => ∃ k m : Nat, k ≤ l.length ∧ x = .int .i64 k ∧ ((w.alloc (.cells #[.string a, .string b, .slice p1 l.length c1] 24)).alloc (.cells #[.string a, .string b, .slice p2 l.length c2] 24)).drewN m = wr) (fun x _ => l.length - (intOf x).toNat)
  case atStart => exact ⟨0, 0, Nat.zero_le _, rfl, rfl⟩
  case round =>
    obtain ⟨k, m, hk, rfl, rfl⟩ := hrel
    by_cases hlt : k < l.length
    · obtain ⟨x, hx⟩ : ∃ x, l[k]? = some x := ⟨_, List.getElem?_eq_getElem hlt⟩
      obtain ⟨b1, o1, rfl, hb1, d0, d1, d2⟩ := hs1 k x hx
      obtain ⟨b2, o2, rfl, hb2', e0, e1, e2⟩ := hs2 k x hx
      have i1 : (k : Int) < (l.length : Int) := by omega
      have hcm := fun W => neq_item x.name x.value x.has x.name x.value x.has W
      obtain ⟨xn, xv, xh⟩ := x
      simp only [decide_true, Bool.not_true] at hcm
      clear hx hs1 hs2
      go_wp2_with fail
      go_quiet (fail)
      go_wp2_with fail
      go_roundw
      case rel => exact ⟨k + 1, _, by omega, by go_num, rfl⟩
      case measure => simp [intOf]; omega
    · obtain rfl : k = l.length := by omega
      go_wp2_with fail
      go_ret
      exact ⟨rfl, below_drewN hb2 m⟩
theorem ref17_Same_nil (w : World) : Calls Tryz.prog 16 #[.agg #[.string ⟨#[]⟩, .string ⟨#[]⟩, .slice none 0 0], .agg #[.string ⟨#[]⟩, .string ⟨#[]⟩, .slice none 0 0]] w fun e w' => e = .returned (.bool true) ∧ Below w.heap.size w w' :=
  ref17_Same ⟨#[]⟩ ⟨#[]⟩ none 0 none 0 [] w (fun i p h => by simp at h) (fun i p h => by simp at h) (by simp)
end Go.Proofs.YtndppcklpcfikaaGreatDoor

/- The reference of chapter 17: token, blank, quoted, from place to place. -/
namespace Go.Proofs.YtndppcklpcfikaaGreatDoor
open Go.RowKit

def rest (s : ByteArray) (a : Nat) : List UInt8 := s.data.toList.drop a
theorem rest_len (s : ByteArray) (a : Nat) : (rest s a).length = s.size - a := by unfold rest; rw [List.length_drop]; rfl
theorem rest_get {s : ByteArray} {a i : Nat} : (rest s a).getD i 0 = byteAt s (a + i) := by
  unfold rest byteAt
  rw [List.getD, List.getD, List.getElem?_drop]
theorem rest_drop (s : ByteArray) (a i : Nat) : (rest s a).drop i = rest s (a + i) := by unfold rest; rw [List.drop_drop]
theorem rest_cons {s : ByteArray} {i : Nat} (h : i < s.size) : rest s i = byteAt s i :: rest s (i + 1) := by
  unfold rest byteAt
  have hl : s.data.toList.length = s.size := rfl
  rw [List.drop_eq_getElem_cons (by omega), List.getD, List.getElem?_eq_getElem (by omega)]
  rfl
theorem rest_nil {s : ByteArray} {i : Nat} (h : s.size ≤ i) : rest s i = [] := by
  unfold rest
  exact List.drop_eq_nil_of_le h
theorem rest_extract (s : ByteArray) (a n : Nat) : s.extract a (a + n) = ofL ((rest s a).take n) := by
  conv => lhs; rw [← ofL_list s]
  rw [ofL_extract]
  unfold rest
  rw [show a + n - a = n by omega]
def tokAt (s : ByteArray) (a : Nat) : Int := if tokOk (tokW (rest s a)) = true then ((a + (tokW (rest s a)).length : Nat) : Int) else -1
theorem ext_whole (s : ByteArray) (a b : Nat) (ha : a = 0) (hb : b = s.size) : s.extract a b = s := by
  subst ha hb
  apply ByteArray.ext
  apply Array.ext'
  rw [Lib.extract_data]
  have hl : s.data.toList.length = s.size := rfl
  rw [List.drop_zero, Nat.sub_zero, ← hl, List.take_length]
set_option maxHeartbeats 1600000 in
set_option maxRecDepth 100000 in
theorem ref17_token (s : ByteArray) (a : Nat) (w : World) (hs : s.size ≤ 1000000) (ha : a ≤ s.size) : Calls Tryz.prog 37 #[.string s, .int .i64 (a : Int)] w fun e w' => e = .returned (.int .i64 (tokAt s a)) ∧ w = w' := by
  obtain ⟨s1, s2, s3, s4, _⟩ := span_at inTok (rest s a)
  rw [rest_len] at s2 s3
  have hW : tokW (rest s a) = (rest s a).take ((rest s a).takeWhile inTok).length := s4
  have cT := fun W => ref17_Token (ofL (tokW (rest s a))) W (by rw [ofL_size, hW, List.length_take, rest_len]; omega)
  have hfin : tokAt s a = if tokOk (tokW (rest s a)) = true then ((a + ((rest s a).takeWhile inTok).length : Nat) : Int) else -1 := rfl
  rw [ofL_list2] at cT
  have hext : s.extract a (a + ((rest s a).takeWhile inTok).length) = ofL (tokW (rest s a)) := by rw [rest_extract, hW]
  rw [← hext] at cT
  generalize tokOk (tokW (rest s a)) = ok at *
  generalize ((rest s a).takeWhile inTok).length = k at *
  have CT := Lib.hid cT
  have S1 := Lib.hid s1
  have S3 := Lib.hid s3
  have HF := Lib.hid hfin
  clear cT s1 s3 s4 hW hfin hext
  go_enter Tryz.func37, Tryz.ntmps37
  go_wp2_with fail
  go_loopw [5] (fun x wr => ∃ i : Nat, i ≤ k ∧ x = .int .i64 ((a + i : Nat) : Int) ∧ w = wr) (fun x _ => a + k - (intOf x).toNat)
  case atStart => exact ⟨0, Nat.zero_le _, rfl, rfl⟩
  case round =>
    obtain ⟨i, hik, rfl, rfl⟩ := hrel
    have hai : ((a + i : Nat) : Int) = (a : Int) + (i : Int) := by omega
    by_cases hlt : i < k
    · have hz : a + i < s.size := by omega
      have ei : s[a + i] = (rest s a).getD i 0 := by rw [← byteAt_ix hz, rest_get]
      have cI := Lib.hid (ref_within s[a + i])
      rw [ei, S1.out i hlt, ← ei] at cI
      have hzI : ((a + i : Nat) : Int) < (s.size : Int) := by omega
      clear ei hai
      have hb : a + i = a + i := rfl
      generalize e0 : a + i = b at hz cI hzI hb ⊢
      clear hb
      go_wp2_with fail
      refine (cI.out _).mono ?_
      rintro e w2 ⟨rfl, rfl⟩
      go_wp2_with fail
      go_roundw
      case rel => exact ⟨i + 1, by omega, by rw [← e0]; go_num, by first | rfl | trivial⟩
      case measure => simp [intOf]; omega
    · obtain rfl : i = k := by omega
      by_cases hz : a + i < s.size
      · have ei : s[a + i] = (rest s a).getD i 0 := by rw [← byteAt_ix hz, rest_get]
        have cI := Lib.hid (ref_within s[a + i])
        rw [ei, S3.out (by omega), ← ei] at cI
        have hzI : ((a + i : Nat) : Int) < (s.size : Int) := by omega
        have hbI : (a : Int) ≤ ((a + i : Nat) : Int) := by omega
        clear ei hai hlt hik S1 S3 s2 ha
        generalize a + i = b at *
        go_wp2_with fail
        refine (cI.out _).mono ?_
        rintro e w2 ⟨rfl, rfl⟩
        go_wp2_with fail
        refine (CT.out _).mono ?_
        rintro e w2 ⟨rfl, rfl⟩
        cases ok
        · go_wp2_with fail
          go_ret
          exact ⟨HF.out.symm ▸ rfl, rfl⟩
        · go_wp2_with fail
          go_ret
          exact ⟨HF.out.symm ▸ rfl, rfl⟩
      · have hb : a + i = s.size := by omega
        have hbI : (a : Int) ≤ (s.size : Int) := by omega
        rw [hb] at CT HF ⊢
        clear hai hlt hik S1 S3 s2 ha hz hb
        go_wp2_with fail
        refine (CT.out _).mono ?_
        rintro e w2 ⟨rfl, rfl⟩
        cases ok
        · go_wp2_with fail
          go_ret
          exact ⟨HF.out.symm ▸ rfl, rfl⟩
        · go_wp2_with fail
          go_ret
          exact ⟨HF.out.symm ▸ rfl, rfl⟩
end Go.Proofs.YtndppcklpcfikaaGreatDoor

/- The reference of chapter 17: blank, quoted, from place to place. -/
namespace Go.Proofs.YtndppcklpcfikaaGreatDoor
open Go.RowKit

def blankN (s : ByteArray) (a : Nat) : Nat := a + ((rest s a).takeWhile isBlank).length
theorem blankN_rest (s : ByteArray) (a : Nat) : rest s (blankN s a) = blankL (rest s a) := by
  obtain ⟨_, _, _, _, s5⟩ := span_at isBlank (rest s a)
  unfold blankN blankL
  rw [s5, rest_drop]
theorem blankN_le (s : ByteArray) (a : Nat) (ha : a ≤ s.size) : a ≤ blankN s a ∧ blankN s a ≤ s.size := by
  obtain ⟨_, s2, _, _, _⟩ := span_at isBlank (rest s a)
  rw [rest_len] at s2
  unfold blankN
  omega
theorem u8_is {c : UInt8} {n : Nat} (hn : n < 256) : ((c.toNat : Int) == (n : Int)) = decide (c = UInt8.ofNat n) := by
  by_cases h : c = UInt8.ofNat n
  · have := u8_eqN hn h
    rw [decide_eq_true h]
    simpa [bne] using this
  · have := u8_neN hn h
    rw [decide_eq_false h]
    simpa [bne] using this
set_option maxHeartbeats 1600000 in
set_option maxRecDepth 100000 in
theorem ref17_blank (s : ByteArray) (a : Nat) (w : World) (hs : s.size ≤ 1000000) (ha : a ≤ s.size) : Calls Tryz.prog 36 #[.string s, .int .i64 (a : Int)] w fun e w' => e = .returned (.int .i64 (blankN s a : Int)) ∧ w = w' := by
  obtain ⟨s1, s2, s3, s4, _⟩ := span_at isBlank (rest s a)
  rw [rest_len] at s2 s3
  have hfin : blankN s a = a + ((rest s a).takeWhile isBlank).length := rfl
  generalize ((rest s a).takeWhile isBlank).length = k at *
  have S1 := Lib.hid s1
  have S3 := Lib.hid s3
  have HF := Lib.hid hfin
  clear s1 s3 s4 hfin
  go_enter Tryz.func36, Tryz.ntmps36
  go_wp2_with fail
  go_loopw [1] (fun x wr => ∃ i : Nat, i ≤ k ∧ x = .int .i64 ((a + i : Nat) : Int) ∧ w = wr) (fun x _ => a + k - (intOf x).toNat)
  case atStart => exact ⟨0, Nat.zero_le _, rfl, rfl⟩
  case round =>
    obtain ⟨i, hik, rfl, rfl⟩ := hrel
    by_cases hz : a + i < s.size
    · have ei : s[a + i] = (rest s a).getD i 0 := by rw [← byteAt_ix hz, rest_get]
      have d1 : ((s[a + i].toNat : Int) == 32) = decide (s[a + i] = 32) := u8_is (n := 32) (by decide)
      have d2 : ((s[a + i].toNat : Int) == 9) = decide (s[a + i] = 9) := u8_is (n := 9) (by decide)
      have hzI : ((a + i : Nat) : Int) < (s.size : Int) := by omega
      by_cases hlt : i < k
      · have hB := S1.out i hlt
        rw [← ei] at hB
        unfold isBlank at hB
        clear ei
        generalize e0 : a + i = b at hz d1 d2 hzI hB ⊢
        by_cases h32 : (s[b]'hz) = 32
        · rw [decide_eq_true h32] at d1
          clear d2 hB h32
          go_wp2_with fail
          go_roundw
          case rel => exact ⟨i + 1, by omega, by rw [← e0]; go_num, by first | rfl | trivial⟩
          case measure => simp [intOf]; omega
        · have h9 : (s[b]'hz) = 9 := by simpa [h32] using hB
          rw [decide_eq_false h32] at d1
          rw [decide_eq_true h9] at d2
          clear hB h32 h9
          go_wp2_with fail
          go_roundw
          case rel => exact ⟨i + 1, by omega, by rw [← e0]; go_num, by first | rfl | trivial⟩
          case measure => simp [intOf]; omega
      · obtain rfl : i = k := by omega
        have hB := S3.out (by omega)
        rw [← ei] at hB
        unfold isBlank at hB
        clear ei S1 S3 s2 hlt hik ha
        generalize a + i = b at *
        have h32 : (s[b]'hz) ≠ 32 := fun h => by simp [h] at hB
        have h9 : (s[b]'hz) ≠ 9 := fun h => by simp [h] at hB
        rw [decide_eq_false h32] at d1
        rw [decide_eq_false h9] at d2
        clear hB h32 h9
        go_wp2_with fail
        go_ret
        exact ⟨by rw [HF.out]; rfl, rfl⟩
    · obtain rfl : i = k := by omega
      have hb : a + i = s.size := by omega
      rw [hb] at HF ⊢
      clear S1 S3 s2 hik ha hz hb
      go_wp2_with fail
      go_ret
      exact ⟨by rw [HF.out]; rfl, rfl⟩
theorem ext_one {s : ByteArray} {i : Nat} (h : i < s.size) : s.extract i (i + 1) = ofL [byteAt s i] := by
  rw [rest_extract, rest_cons h]; rfl
theorem cat_one {s : ByteArray} {i : Nat} (out : List UInt8) (h : i < s.size) : ofL out ++ s.extract i (i + 1) = ofL (out ++ [byteAt s i]) := by
  rw [ext_one h, ofL_app]
def quotedN (s : ByteArray) (a : Nat) : ByteArray × Int := match quotedG (rest s (a + 1)) [] with
  | some (v, r) => (ofL v, ((s.size - r.length : Nat) : Int))
  | none => (⟨#[]⟩, -1)
theorem quotedN_some {s : ByteArray} {a : Nat} {v r : List UInt8} (h : quotedG (rest s (a + 1)) [] = some (v, r)) : quotedN s a = (ofL v, ((s.size - r.length : Nat) : Int)) := by unfold quotedN; rw [h]
theorem quotedN_none {s : ByteArray} {a : Nat} (h : quotedG (rest s (a + 1)) [] = none) : quotedN s a = (⟨#[]⟩, -1) := by unfold quotedN; rw [h]
set_option maxHeartbeats 1600000 in
set_option maxRecDepth 100000 in
theorem ref17_quoted (s : ByteArray) (a : Nat) (w : World) (hs : s.size ≤ 1000000) (ha : a < s.size) : Calls Tryz.prog 54 #[.string s, .int .i64 (a : Int)] w fun e w' => e = .returned (.tuple #[.string (quotedN s a).1, .int .i64 (quotedN s a).2]) ∧ w = w' := by
  go_enter Tryz.func54, Tryz.ntmps54
  go_wp2_with fail
  go_loopw [6, 7] (fun o x wr => ∃ (i : Nat) (out : List UInt8), i ≤ s.size ∧ o = .string (ofL out) ∧ x = .int .i64 (i : Int) ∧ out.length ≤ i ∧ quotedG (rest s (a + 1)) [] = quotedG (rest s i) out ∧ w = wr) (fun _ x _ => s.size - (intOf x).toNat)
  case atStart => exact ⟨a + 1, [], by omega, rfl, by go_num, by simp, rfl, rfl⟩
  case round =>
    obtain ⟨i, out, his, rfl, rfl, hol, hq, rfl⟩ := hrel
    by_cases hz : i < s.size
    · rw [rest_cons hz] at hq
      have ei := byteAt_ix hz
      have d1 : ((s[i].toNat : Int) == 34) = decide (s[i] = 34) := u8_is (n := 34) (by decide)
      have d2 : ((s[i].toNat : Int) == 92) = decide (s[i] = 92) := u8_is (n := 92) (by decide)
      by_cases h34 : s[i] = 34
      · rw [quotedG_end (ei.trans h34)] at hq
        have hr := quotedN_some hq
        rw [rest_len, show s.size - (s.size - (i + 1)) = i + 1 by omega] at hr
        rw [decide_eq_true h34] at d1
        have HR := Lib.hid hr
        clear hr hq ei d2 h34
        go_wp2_with fail
        go_ret2
        exact ⟨by rw [HR.out]; rfl, rfl⟩
      · rw [decide_eq_false h34] at d1
        by_cases h92 : s[i] = 92
        · rw [decide_eq_true h92] at d2
          rw [ei, h92] at hq
          by_cases hz2 : i + 1 < s.size
          · rw [rest_cons hz2, quotedG_esc] at hq
            have hcat := cat_one out hz2
            have hne : (((i + 1 : Nat) : Int) == (s.size : Int)) = false := by rw [beq_eq_false_iff_ne]; omega
            have hol2 : (ofL out).size ≤ 1000000 := by rw [ofL_size]; omega
            have HC := Lib.hid hcat
            have HQ := Lib.hid hq
            clear hq hcat ei h34 h92
            go_wp2_with fail
            go_roundw
            case rel => exact ⟨i + 2, out ++ [byteAt s (i + 1)], by omega, by rw [← HC.out], by go_num, by simp; omega, HQ.out, by first | rfl | trivial⟩
            case measure => simp [intOf]; omega
          · obtain hb : i + 1 = s.size := by omega
            rw [rest_nil (s := s) (i := i + 1) (by omega), quotedG_esc0] at hq
            have HR := Lib.hid (quotedN_none hq)
            have hne : (((i : Int) + 1) == (s.size : Int)) = true := by rw [beq_iff_eq]; omega
            clear hq ei h34 h92
            go_wp2_with fail
            go_ret2
            exact ⟨by rw [HR.out]; rfl, rfl⟩
        · rw [decide_eq_false h92] at d2
          rw [quotedG_step (by rw [ei]; exact h34) (by rw [ei]; exact h92)] at hq
          have hcat := cat_one out hz
          have hol2 : (ofL out).size ≤ 1000000 := by rw [ofL_size]; omega
          have HC := Lib.hid hcat
          have HQ := Lib.hid hq
          clear hq hcat ei h34 h92
          go_wp2_with fail
          go_roundw
          case rel => exact ⟨i + 1, out ++ [byteAt s i], by omega, by rw [← HC.out], by go_num, by simp; omega, HQ.out, by first | rfl | trivial⟩
          case measure => simp [intOf]; omega
    · rw [rest_nil (s := s) (i := i) (by omega)] at hq
      have HR := Lib.hid (quotedN_none (hq.trans rfl))
      clear hq
      go_wp2_with fail
      go_ret2
      exact ⟨by rw [HR.out]; rfl, rfl⟩
end Go.Proofs.YtndppcklpcfikaaGreatDoor
