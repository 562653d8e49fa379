/- The reference's Fields of chapter 02. -/
import Derived.Test.YtbonnmkkacplgaaGreatDoorLabelNamesM18
import Derived.Test.YtbonnmkkacplgaaGreatDoorLabelNamesM12

namespace Go.Proofs.YtbonnmkkacplgaaGreatDoor
open Go.RowKit

def RFieldsPost (s : ByteArray) (mark : UInt8) (most : Nat) (w : World) (e : Ending) (w' : World) : Prop :=
  Below w.heap.size w w' ∧
  ((∃ v, e = .returned (.tuple #[v, .int .i64 0, .int .i64 0]) ∧ (cutAt s mark s.size).1.length < most ∧
      w'.ownsRow w.heap.size 9 1 v ((cutAt s mark s.size).1.length + 1) (((cutAt s mark s.size).1 ++ [s.extract (cutAt s mark s.size).2 s.size]).map strV)) ∨
   (∃ i : Nat, e = .returned (.tuple #[.slice none 0 0, .int .i64 15, .int .i64 i]) ∧ i < s.size ∧ byteAt s i = mark ∧ (cutAt s mark (i + 1)).1.length = most))
theorem ext_snoc {s : ByteArray} {a k : Nat} (h : k < s.size) (ha : a ≤ k) : s.extract a k ++ ofL [byteAt s k] = s.extract a (k + 1) := by
  rw [← extract_one h]
  rw [ByteArray.extract_append_extract]
  congr 1
  · omega
  · omega
theorem ext_nil (s : ByteArray) (a : Nat) : s.extract a a = ⟨#[]⟩ := by
  apply ByteArray.ext
  apply Array.ext'
  rw [Lib.extract_data]
  simp
set_option maxHeartbeats 3200000 in
set_option maxRecDepth 100000 in
theorem ref_Fields (s : ByteArray) (mark : UInt8) (most : Nat) (w : World) (hs : s.size ≤ 16777216) (hm : 1 ≤ most) (hm2 : most ≤ 16777216) :
    Calls Tryz.prog 23 #[.string s, .int .u8 (mark.toNat : Int), .int .i64 (most : Int)] w (RFieldsPost s mark most w) := by
  obtain ⟨i0, hi, hz0, hz1, hz2⟩ := info_parts info_string
  have hmI : ¬ (most : Int) < 1 := by omega
  go_enter Tryz.func23, Tryz.ntmps23
  go_wp2_with fail
  have hcnt := cutAt_le s mark
  have HCNT := Lib.hid hcnt
  clear hcnt
  go_loopw [9, 10, 11] (fun v p i wr => ∃ k : Nat, k ≤ s.size ∧ i = .int .i64 k ∧ p = .string (s.extract (cutAt s mark k).2 k) ∧ (cutAt s mark k).1.length < most ∧
      wr.ownsRow w.heap.size 9 1 v (cutAt s mark k).1.length ((cutAt s mark k).1.map strV) ∧ Below w.heap.size w wr)
    (fun _ _ i _ => s.size - (intOf i).toNat)
  case atStart => exact ⟨0, Nat.zero_le _, rfl, by show _ = Value.string (s.extract 0 0); rw [ext_nil], by simp [cutAt]; omega, World.ownsRow_made (base := w.heap.size) w #[] 0 (Nat.le_refl _) (by unfold maxLen; omega) rfl, (Below.refl _ _).alloc (Nat.le_refl _) _⟩
  case round =>
    obtain ⟨k, hk, rfl, rfl, hlen, hown, hbr⟩ := hrel
    have hc := HCNT.out k
    have hesz : (s.extract (cutAt s mark k).2 k).size ≤ 16777216 := by rw [ByteArray.size_extract]; omega
    by_cases hlt : k < s.size
    · have hidx : s[k] = byteAt s k := by simp [byteAt, List.getD, hlt]; rfl
      have hltI : (k : Int) < (s.size : Int) := by omega
      by_cases hmk : byteAt s k = mark
      · have e1 := u8_eq hmk
        have hnx : cutAt s mark (k + 1) = ((cutAt s mark k).1 ++ [s.extract (cutAt s mark k).2 k], k + 1) := by rw [cutAt, if_pos hmk]
        have HNX := Lib.hid hnx
        have hmk' := Lib.hid hmk
        clear hnx hmk
        generalize cutAt s mark k = ck at *
        obtain ⟨l, f⟩ := ck
        simp only at hlen hown hc hesz HNX ⊢
        generalize s.extract f k = part at *
        go_wp2_with (at_builtin; refine wpList_append_own _ rfl _ _ 38 rfl w.heap.size 9 i0 (.string ByteArray.empty) 1 16 Tryz.underlying38 hi hz0 hz1 hz2 rfl (by decide) _ _ _ rfl (hown.alloc _) ⟨wr.heap.size, 0, none⟩ 1 1 [strV part] rfl rfl ?c1 ?c2 ?c3 ?c4 ?c5 ?_)
        case c1 =>
          intro j u hj
          match j, hj with
          | 0, hj => simp at hj; subst hj; simp [Addr.add, strV]
        case c2 => intro u hu; simp at hu; subst hu; rfl
        case c3 => unfold maxLen; omega
        case c4 => omega
        case c5 => have := hbr.size; simp; omega
        intro v1 w2 hown1 hg1 _
        have hbr2 : Below w.heap.size w w2 := below_app hbr hown (Nat.le_refl _) hg1
        obtain ⟨g, c2, rfl, hgB, hgl⟩ := ownsRow_form hown1 (by omega)
        clear hg1 hown hbr hidx
        by_cases hmo : l.length + 1 = most
        · have em : ((l.length : Int) + 1 == (most : Int)) = true := by rw [beq_iff_eq]; omega
          have HMO := Lib.hid hmo
          clear hmo
          go_wp2_with fail
          go_ret3
          exact ⟨hbr2, .inr ⟨k, rfl, hlt, hmk'.out, by rw [HNX.out]; simpa using HMO.out⟩⟩
        · have em : ((l.length : Int) + 1 == (most : Int)) = false := by rw [beq_eq_false_iff_ne]; omega
          go_wp2_with fail
          go_roundw
          case rel => exact ⟨k + 1, by omega, by go_num, by rw [HNX.out]; simp only [ext_nil], by rw [HNX.out]; simp; omega, by rw [HNX.out]; simpa using hown1, hbr2⟩
          case measure => simp [intOf]; omega
      · have e1 := u8_ne hmk
        have hnx : cutAt s mark (k + 1) = cutAt s mark k := by rw [cutAt, if_neg hmk]
        have hex := extract_one hlt
        have hsn := ext_snoc (a := (cutAt s mark k).2) hlt hc.2
        have HNX := Lib.hid hnx
        have HSN := Lib.hid hsn
        have hq1 : (ofL [byteAt s k]).size ≤ 1 := by rw [ofL_size]; exact Nat.le_refl _
        clear hnx hmk hsn
        generalize ofL [byteAt s k] = q at *
        go_wp2_with fail
        go_roundw
        case rel => exact ⟨k + 1, by omega, by go_num, by rw [HNX.out, ← HSN.out], by rw [HNX.out]; exact hlen, by rw [HNX.out]; exact hown, hbr⟩
        case measure => simp [intOf]; omega
    · obtain rfl : k = s.size := by omega
      have hlt2 := hown.lt
      generalize hpt : s.extract (cutAt s mark s.size).2 s.size = part at *
      have HPT := Lib.hid hpt
      clear hpt
      go_wp2_with (at_builtin; refine wpList_append_own _ rfl _ _ 38 rfl w.heap.size 9 i0 (.string ByteArray.empty) 1 16 Tryz.underlying38 hi hz0 hz1 hz2 rfl (by decide) _ _ _ rfl (hown.alloc _) ⟨wr.heap.size, 0, none⟩ 1 1 [strV part] rfl rfl ?c1 ?c2 ?c3 ?c4 ?c5 ?_)
      case c1 =>
        intro j u hj
        match j, hj with
        | 0, hj => simp at hj; subst hj; simp [Addr.add, strV]
      case c2 => intro u hu; simp at hu; subst hu; rfl
      case c3 => unfold maxLen; omega
      case c4 => omega
      case c5 => have := hbr.size; simp; omega
      intro v1 w2 hown1 hg1 _
      have hbr2 : Below w.heap.size w w2 := below_app hbr hown (Nat.le_refl _) hg1
      clear hg1 hlt2 hown hbr
      go_wp2_with fail
      go_ret3
      exact ⟨hbr2, .inl ⟨v1, rfl, hlen, by rw [HPT.out]; simpa using hown1⟩⟩
end Go.Proofs.YtbonnmkkacplgaaGreatDoor
