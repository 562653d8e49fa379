/- Items, compared; two rows of items. -/
import Derived.Test.YtiaafljbddamhaaDoorQueryReadsM7
import Derived.Laws.StructEq
import Derived.Deep.QuietTactic
import Derived.BigQuiet
import Derived.Test.YtiaafljbddamhaaDoorQueryReadsM1
import Derived.Test.YtiaafljbddamhaaDoorQueryReadsM3
import Derived.Test.YtiaafljbddamhaaDoorQueryReadsM2

namespace Go.Proofs.YtiaafljbddamhaaDoor
open Go.RowKit

def itemV (x : It) : Value := .agg #[.string x.name, .string x.value, .bool x.has]
theorem toList_eqB (a b : ByteArray) : (a.toList = b.toList) = (a = b) := by
  have h := str_eqB a b
  rw [Bool.eq_iff_iff] at h
  simpa using h
theorem neq_item (n v : ByteArray) (b : Bool) (n' v' : ByteArray) (b' : Bool) (w : World) : (binOp .neq 78 (.agg #[.string n, .string v, .bool b]) (.agg #[.string n', .string v', .bool b'])).run Tryd.prog w = .ok (.bool (!decide ((⟨n, v, b⟩ : It) = ⟨n', v', b'⟩))) w := by
  have u9 := Tryd.underlying9
  have u4 := Tryd.underlying4
  have z9 := Tryd.sizeOf9
  have z4 := Tryd.sizeOf4
  have a9 := Tryd.isAgg9
  have a4 := Tryd.isAgg4
  have hS : Tryd.prog.underlying 78 = some (.struct (Tryd.prog.fieldsOf 78)) := by kernel_rfl
  have hp : Tryd.prog.stoodInHeld 78 = false := by kernel_rfl
  rw [run_neq_struct, show (10000 : Nat) = 9999 + 1 from rfl, run_equalIn_agg w 9999 78 _ _ hS hp]
  simp only [Program.fieldsOf, Tryd.underlying78]
  go_simp
  simp only [toList_eqB]
  by_cases h1 : n = n'
  · by_cases h2 : v = v'
    · by_cases h3 : b = b'
      · simp [h1, h2, h3]
      · simp [h1, h2, h3]
    · simp [h1, h2]
  · simp [h1]

set_option maxHeartbeats 1600000 in
set_option maxRecDepth 100000 in
theorem ref16_Same (a1 : Option Addr) (c1 : Nat) (a2 : Option Addr) (c2 : Nat) (l1 l2 : List It) (w : World) (h1 : ItemsOwn w a1 l1) (h2 : ItemsOwn w a2 l2) (hn1 : l1.length ≤ 16777216) (hn2 : l2.length ≤ 16777216) :
    Calls Tryd.prog 36 #[.slice a1 l1.length c1, .slice a2 l2.length c2] w fun e w' => e = .returned (.bool (decide (l1 = l2))) ∧ ∃ m, w.drewN m = w' := by
  by_cases hn : l1.length = l2.length
  · go_enter Tryd.func36, Tryd.ntmps36
    have hnI : ((l1.length : Int) != (l2.length : Int)) = false := by simp; omega
    have h12 : l1.length ≤ l2.length := by omega
    have HN := Lib.hid hn
    clear hn
    go_wp2_with fail
    go_loopw [5] (fun i wr => ∃ k m : Nat, k ≤ l1.length ∧ i = .int .i64 k ∧ w.drewN m = wr ∧ l1.take k = l2.take k) (fun i _ => l1.length - (intOf i).toNat)
    case atStart => exact ⟨0, 0, Nat.zero_le _, rfl, rfl, rfl⟩
    case round =>
      obtain ⟨k, m, hk, rfl, rfl, hall⟩ := hrel
      have HA := Lib.hid hall
      clear hall
      by_cases hlt : k < l1.length
      · obtain ⟨x, hx⟩ : ∃ x, l1[k]? = some x := ⟨_, List.getElem?_eq_getElem hlt⟩
        obtain ⟨y, hy⟩ : ∃ y, l2[k]? = some y := ⟨_, List.getElem?_eq_getElem (by omega)⟩
        obtain ⟨b1, rfl, hb1, d0, d1, d2⟩ := h1 k x hx
        obtain ⟨b2, rfl, hb2, e0, e1, e2⟩ := h2 k y hy
        have i1 : (k : Int) < (l1.length : Int) := by omega
        have i2 : (k : Int) < (l2.length : Int) := by omega
        have hcm := fun W => neq_item x.name x.value x.has y.name y.value y.has W
        have hstep : x = y → l1.take (k + 1) = l2.take (k + 1) := by
          intro e
          rw [List.take_add_one, List.take_add_one, HA.out, hx, hy, e]
        have hne : x ≠ y → l1 ≠ l2 := by
          intro e e'
          rw [e', hy] at hx
          exact e (Option.some.inj hx).symm
        have HS := Lib.hid hstep
        have HNE := Lib.hid hne
        clear hstep hne hx hy h1 h2
        obtain ⟨xn, xv, xh⟩ := x
        obtain ⟨yn, yv, yh⟩ := y
        by_cases hxy : (⟨xn, xv, xh⟩ : It) = ⟨yn, yv, yh⟩
        · simp only [decide_eq_true hxy, Bool.not_true] at hcm
          have HX := Lib.hid (HS.out hxy)
          clear hxy HS HNE
          go_wp2_with fail
          go_quiet (fail)
          go_wp2_with fail
          go_roundw
          case rel => exact ⟨k + 1, _, by omega, by go_num, rfl, HX.out⟩
          case measure => simp [intOf]; omega
        · simp only [decide_eq_false hxy, Bool.not_false] at hcm
          have HX := Lib.hid (HNE.out hxy)
          clear hxy HS HNE
          go_wp2_with fail
          go_quiet (fail)
          go_wp2_with fail
          go_ret
          exact ⟨ret_bool (decide_eq_false HX.out).symm, _, (World.drewN_drewN _ _ _).symm⟩
      · obtain rfl : k = l1.length := by omega
        have heq : l1 = l2 := by
          have := HA.out
          rw [List.take_length, HN.out, List.take_length] at this
          exact this
        have HE := Lib.hid heq
        clear heq h1 h2
        go_wp2_with fail
        go_ret
        exact ⟨ret_bool (decide_eq_true HE.out).symm, _, rfl⟩
  · have e1 : ((l1.length : Int) != (l2.length : Int)) = true := by simp; omega
    have hne : l1 ≠ l2 := fun h => hn (by rw [h])
    have HNE := Lib.hid hne
    clear hne hn
    go_enter Tryd.func36, Tryd.ntmps36
    go_wp2_with fail
    go_ret
    exact ⟨ret_bool (decide_eq_false HNE.out).symm, 0, rfl⟩
end Go.Proofs.YtiaafljbddamhaaDoor

/- fold.Fields: the parts of a text between marks. -/
namespace Go.Proofs.YtiaafljbddamhaaDoor
open Go.RowKit

theorem info_string : (Tryd.prog.info? 9).map (fun i => (i.zero, i.size, i.bytes)) = some (some (.string ByteArray.empty), 1, 16) := by kernel_rfl

/-- What has been collected after k bytes, and where the part that is open begins. -/
def cutAt (s : ByteArray) (mark : UInt8) : Nat → List ByteArray × Nat
  | 0 => ([], 0)
  | k + 1 => if byteAt s k = mark then ((cutAt s mark k).1 ++ [s.extract (cutAt s mark k).2 k], k + 1) else cutAt s mark k

theorem cutAt_le (s : ByteArray) (mark : UInt8) (k : Nat) : (cutAt s mark k).1.length ≤ k ∧ (cutAt s mark k).2 ≤ k := by
  induction k with
  | zero => simp [cutAt]
  | succ k ih =>
    unfold cutAt
    split
    · simp; omega
    · omega

theorem cutAt_mono (s : ByteArray) (mark : UInt8) {j k : Nat} (h : j ≤ k) : (cutAt s mark j).1.length ≤ (cutAt s mark k).1.length := by
  induction h with
  | refl => exact Nat.le_refl _
  | step _ ih =>
    refine Nat.le_trans ih ?_
    rw [cutAt]
    split
    · simp
    · exact Nat.le_refl _

def FieldsPost (s : ByteArray) (mark : UInt8) (most : Int) (w : World) (e : Ending) (w' : World) : Prop :=
  Below w.heap.size w w' ∧
  ((∃ v, e = .returned (.tuple #[v, .nilIface]) ∧ ((cutAt s mark s.size).1.length : Int) < most ∧
      w'.ownsRow w.heap.size 9 1 v ((cutAt s mark s.size).1.length + 1) (((cutAt s mark s.size).1 ++ [s.extract (cutAt s mark s.size).2 s.size]).map strV)) ∨
   (∃ (i : Nat) (v : Value), e = .returned (.tuple #[.slice none 0 0, v]) ∧ i < s.size ∧ byteAt s i = mark ∧ ((cutAt s mark (i + 1)).1.length : Int) = most ∧ IsFault w' v 15 i))

end Go.Proofs.YtiaafljbddamhaaDoor

/- The reference's Fields of chapter 02. -/
namespace Go.Proofs.YtiaafljbddamhaaDoor
open Go.RowKit

def RFieldsPost (s : ByteArray) (mark : UInt8) (most : Nat) (w : World) (e : Ending) (w' : World) : Prop :=
  Below w.heap.size w w' ∧
  ((∃ v, e = .returned (.tuple #[v, .int .i64 0, .int .i64 0]) ∧ (cutAt s mark s.size).1.length < most ∧
      w'.ownsRow w.heap.size 9 1 v ((cutAt s mark s.size).1.length + 1) (((cutAt s mark s.size).1 ++ [s.extract (cutAt s mark s.size).2 s.size]).map strV)) ∨
   (∃ i : Nat, e = .returned (.tuple #[.slice none 0 0, .int .i64 15, .int .i64 i]) ∧ i < s.size ∧ byteAt s i = mark ∧ (cutAt s mark (i + 1)).1.length = most))
theorem ext_snoc {s : ByteArray} {a k : Nat} (h : k < s.size) (ha : a ≤ k) : s.extract a k ++ ofL [byteAt s k] = s.extract a (k + 1) := by
  rw [← extract_one h]
  rw [ByteArray.extract_append_extract]
  congr 1
  · omega
  · omega
theorem ext_nil (s : ByteArray) (a : Nat) : s.extract a a = ⟨#[]⟩ := by
  apply ByteArray.ext
  apply Array.ext'
  rw [Lib.extract_data]
  simp
set_option maxHeartbeats 3200000 in
set_option maxRecDepth 100000 in
theorem ref_Fields (s : ByteArray) (mark : UInt8) (most : Nat) (w : World) (hs : s.size ≤ 16777216) (hm : 1 ≤ most) (hm2 : most ≤ 16777216) :
    Calls Tryd.prog 64 #[.string s, .int .u8 (mark.toNat : Int), .int .i64 (most : Int)] w (RFieldsPost s mark most w) := by
  obtain ⟨i0, hi, hz0, hz1, hz2⟩ := info_parts info_string
  have hmI : ¬ (most : Int) < 1 := by omega
  go_enter Tryd.func64, Tryd.ntmps64
  go_wp2_with fail
  have hcnt := cutAt_le s mark
  have HCNT := Lib.hid hcnt
  clear hcnt
  go_loopw [9, 10, 11] (fun v p i wr => ∃ k : Nat, k ≤ s.size ∧ i = .int .i64 k ∧ p = .string (s.extract (cutAt s mark k).2 k) ∧ (cutAt s mark k).1.length < most ∧
      wr.ownsRow w.heap.size 9 1 v (cutAt s mark k).1.length ((cutAt s mark k).1.map strV) ∧ Below w.heap.size w wr)
    (fun _ _ i _ => s.size - (intOf i).toNat)
  case atStart => exact ⟨0, Nat.zero_le _, rfl, by show _ = Value.string (s.extract 0 0); rw [ext_nil], by simp [cutAt]; omega, World.ownsRow_made (base := w.heap.size) w #[] 0 (Nat.le_refl _) (by unfold maxLen; omega) rfl, (Below.refl _ _).alloc (Nat.le_refl _) _⟩
  case round =>
    obtain ⟨k, hk, rfl, rfl, hlen, hown, hbr⟩ := hrel
    have hc := HCNT.out k
    have hesz : (s.extract (cutAt s mark k).2 k).size ≤ 16777216 := by rw [ByteArray.size_extract]; omega
    by_cases hlt : k < s.size
    · have hidx : s[k] = byteAt s k := by simp [byteAt, List.getD, hlt]; rfl
      have hltI : (k : Int) < (s.size : Int) := by omega
      by_cases hmk : byteAt s k = mark
      · have e1 := u8_eq hmk
        have hnx : cutAt s mark (k + 1) = ((cutAt s mark k).1 ++ [s.extract (cutAt s mark k).2 k], k + 1) := by rw [cutAt, if_pos hmk]
        have HNX := Lib.hid hnx
        have hmk' := Lib.hid hmk
        clear hnx hmk
        generalize cutAt s mark k = ck at *
        obtain ⟨l, f⟩ := ck
        simp only at hlen hown hc hesz HNX ⊢
        generalize s.extract f k = part at *
        go_wp2_with (at_builtin; refine wpList_append_own _ rfl _ _ 69 rfl w.heap.size 9 i0 (.string ByteArray.empty) 1 16 Tryd.underlying69 hi hz0 hz1 hz2 rfl (by decide) _ _ _ rfl (hown.alloc _) ⟨wr.heap.size, 0, none⟩ 1 1 [strV part] rfl rfl ?c1 ?c2 ?c3 ?c4 ?c5 ?_)
        case c1 =>
          intro j u hj
          match j, hj with
          | 0, hj => simp at hj; subst hj; simp [Addr.add, strV]
        case c2 => intro u hu; simp at hu; subst hu; rfl
        case c3 => unfold maxLen; omega
        case c4 => omega
        case c5 => have := hbr.size; simp; omega
        intro v1 w2 hown1 hg1 _
        have hbr2 : Below w.heap.size w w2 := below_app hbr hown (Nat.le_refl _) hg1
        obtain ⟨g, c2, rfl, hgB, hgl⟩ := ownsRow_form hown1 (by omega)
        clear hg1 hown hbr hidx
        by_cases hmo : l.length + 1 = most
        · have em : ((l.length : Int) + 1 == (most : Int)) = true := by rw [beq_iff_eq]; omega
          have HMO := Lib.hid hmo
          clear hmo
          go_wp2_with fail
          go_ret3
          exact ⟨hbr2, .inr ⟨k, rfl, hlt, hmk'.out, by rw [HNX.out]; simpa using HMO.out⟩⟩
        · have em : ((l.length : Int) + 1 == (most : Int)) = false := by rw [beq_eq_false_iff_ne]; omega
          go_wp2_with fail
          go_roundw
          case rel => exact ⟨k + 1, by omega, by go_num, by rw [HNX.out]; simp only [ext_nil], by rw [HNX.out]; simp; omega, by rw [HNX.out]; simpa using hown1, hbr2⟩
          case measure => simp [intOf]; omega
      · have e1 := u8_ne hmk
        have hnx : cutAt s mark (k + 1) = cutAt s mark k := by rw [cutAt, if_neg hmk]
        have hex := extract_one hlt
        have hsn := ext_snoc (a := (cutAt s mark k).2) hlt hc.2
        have HNX := Lib.hid hnx
        have HSN := Lib.hid hsn
        have hq1 : (ofL [byteAt s k]).size ≤ 1 := by rw [ofL_size]; exact Nat.le_refl _
        clear hnx hmk hsn
        generalize ofL [byteAt s k] = q at *
        go_wp2_with fail
        go_roundw
        case rel => exact ⟨k + 1, by omega, by go_num, by rw [HNX.out, ← HSN.out], by rw [HNX.out]; exact hlen, by rw [HNX.out]; exact hown, hbr⟩
        case measure => simp [intOf]; omega
    · obtain rfl : k = s.size := by omega
      have hlt2 := hown.lt
      generalize hpt : s.extract (cutAt s mark s.size).2 s.size = part at *
      have HPT := Lib.hid hpt
      clear hpt
      go_wp2_with (at_builtin; refine wpList_append_own _ rfl _ _ 69 rfl w.heap.size 9 i0 (.string ByteArray.empty) 1 16 Tryd.underlying69 hi hz0 hz1 hz2 rfl (by decide) _ _ _ rfl (hown.alloc _) ⟨wr.heap.size, 0, none⟩ 1 1 [strV part] rfl rfl ?c1 ?c2 ?c3 ?c4 ?c5 ?_)
      case c1 =>
        intro j u hj
        match j, hj with
        | 0, hj => simp at hj; subst hj; simp [Addr.add, strV]
      case c2 => intro u hu; simp at hu; subst hu; rfl
      case c3 => unfold maxLen; omega
      case c4 => omega
      case c5 => have := hbr.size; simp; omega
      intro v1 w2 hown1 hg1 _
      have hbr2 : Below w.heap.size w w2 := below_app hbr hown (Nat.le_refl _) hg1
      clear hg1 hlt2 hown hbr
      go_wp2_with fail
      go_ret3
      exact ⟨hbr2, .inl ⟨v1, rfl, hlen, by rw [HPT.out]; simpa using hown1⟩⟩
end Go.Proofs.YtiaafljbddamhaaDoor

/- The parts between marks, told from place to place, are those of the list that is cut. -/
namespace Go.Proofs.YtiaafljbddamhaaDoor

theorem ext_ofL (l : List UInt8) (i j : Nat) : (ofL l).extract i j = ofL ((l.drop i).take (j - i)) := by
  apply ByteArray.ext
  apply Array.ext'
  rw [Lib.extract_data]
  simp [ofL]
theorem ext_list (s : ByteArray) (i j : Nat) : s.extract i j = ofL ((s.data.toList.drop i).take (j - i)) := by
  conv => lhs; rw [← ofL_list s]
  exact ext_ofL _ i j
theorem cutAt_split (s : ByteArray) (c : UInt8) : ∀ k, k ≤ s.size → (cutAt s c k).2 ≤ k ∧ (∀ j, (cutAt s c k).2 ≤ j → j < k → byteAt s j ≠ c) ∧
    (splitL c s.data.toList).map ofL = (cutAt s c k).1 ++ (splitL c (s.data.toList.drop (cutAt s c k).2)).map ofL := by
  intro k
  have hl : s.data.toList.length = s.size := rfl
  induction k with
  | zero => intro _; simp [cutAt]
  | succ k ih =>
    intro hk
    obtain ⟨h1, h2, h3⟩ := ih (by omega)
    rw [cutAt]
    by_cases hc : byteAt s k = c
    · rw [if_pos hc]
      refine ⟨Nat.le_refl _, fun j hj1 hj2 => by simp only at hj1; omega, ?_⟩
      generalize (cutAt s c k).2 = a at *
      have e : s.data.toList.drop a = (s.data.toList.drop a).take (k - a) ++ c :: s.data.toList.drop (k + 1) := by
        have e1 : s.data.toList.drop a = (s.data.toList.drop a).take (k - a) ++ (s.data.toList.drop a).drop (k - a) := (List.take_append_drop _ _).symm
        rw [List.drop_drop, show a + (k - a) = k by omega, List.drop_eq_getElem_cons (i := k) (by omega)] at e1
        rw [e1]
        congr 2
        unfold byteAt at hc
        rw [List.getD, List.getElem?_eq_getElem (by omega)] at hc
        exact hc
      have hno : ∀ x ∈ (s.data.toList.drop a).take (k - a), x ≠ c := by
        intro x hx
        obtain ⟨i, hi, rfl⟩ := List.mem_iff_getElem.1 hx
        simp only [List.length_take, List.length_drop] at hi
        have := h2 (a + i) (by omega) (by omega)
        unfold byteAt at this
        rw [List.getD, List.getElem?_eq_getElem (by omega)] at this
        simpa using this
      rw [h3, e, splitL_cut c _ _ hno, ext_list]
      simp
    · rw [if_neg hc]
      refine ⟨by omega, fun j hj1 hj2 => ?_, h3⟩
      by_cases hjk : j = k
      · subst hjk; exact hc
      · exact h2 j hj1 (by omega)
theorem fields_split (s : ByteArray) (c : UInt8) : (cutAt s c s.size).1 ++ [s.extract (cutAt s c s.size).2 s.size] = (splitL c s.data.toList).map ofL := by
  have hl : s.data.toList.length = s.size := rfl
  obtain ⟨h1, h2, h3⟩ := cutAt_split s c s.size (Nat.le_refl _)
  rw [h3]
  have hno : ∀ x ∈ s.data.toList.drop (cutAt s c s.size).2, x ≠ c := by
    intro x hx
    obtain ⟨i, hi, rfl⟩ := List.mem_iff_getElem.1 hx
    simp only [List.length_drop] at hi
    have := h2 ((cutAt s c s.size).2 + i) (by omega) (by omega)
    unfold byteAt at this
    rw [List.getD, List.getElem?_eq_getElem (by omega)] at this
    simpa using this
  rw [splitL_none c _ hno, ext_list, List.take_of_length_le (by simp)]
  simp
end Go.Proofs.YtiaafljbddamhaaDoor
