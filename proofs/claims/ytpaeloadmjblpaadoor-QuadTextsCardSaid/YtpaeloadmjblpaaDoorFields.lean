/- fold.Fields: the parts of a text between marks. -/
import Derived.Test.YtpaeloadmjblpaaDoorKit
import Derived.Test.YtpaeloadmjblpaaDoorApi
namespace Go.Proofs.YtpaeloadmjblpaaDoor
open Go.RowKit

theorem info_string : (Tryd.prog.info? 9).map (fun i => (i.zero, i.size, i.bytes)) = some (some (.string ByteArray.empty), 1, 16) := by kernel_rfl

/-- What has been collected after k bytes, and where the part that is open begins. -/
def cutAt (s : ByteArray) (mark : UInt8) : Nat → List ByteArray × Nat
  | 0 => ([], 0)
  | k + 1 => if byteAt s k = mark then ((cutAt s mark k).1 ++ [s.extract (cutAt s mark k).2 k], k + 1) else cutAt s mark k

theorem cutAt_le (s : ByteArray) (mark : UInt8) (k : Nat) : (cutAt s mark k).1.length ≤ k ∧ (cutAt s mark k).2 ≤ k := by
  induction k with
  | zero => simp [cutAt]
  | succ k ih =>
    unfold cutAt
    split
    · simp; omega
    · omega

theorem cutAt_mono (s : ByteArray) (mark : UInt8) {j k : Nat} (h : j ≤ k) : (cutAt s mark j).1.length ≤ (cutAt s mark k).1.length := by
  induction h with
  | refl => exact Nat.le_refl _
  | step _ ih =>
    refine Nat.le_trans ih ?_
    rw [cutAt]
    split
    · simp
    · exact Nat.le_refl _

def FieldsPost (s : ByteArray) (mark : UInt8) (most : Int) (w : World) (e : Ending) (w' : World) : Prop :=
  Below w.heap.size w w' ∧
  ((∃ v, e = .returned (.tuple #[v, .nilIface]) ∧ ((cutAt s mark s.size).1.length : Int) < most ∧
      w'.ownsRow w.heap.size 9 1 v ((cutAt s mark s.size).1.length + 1) (((cutAt s mark s.size).1 ++ [s.extract (cutAt s mark s.size).2 s.size]).map strV)) ∨
   (∃ (i : Nat) (v : Value), e = .returned (.tuple #[.slice none 0 0, v]) ∧ i < s.size ∧ byteAt s i = mark ∧ ((cutAt s mark (i + 1)).1.length : Int) = most ∧ IsFault w' v 15 i))

set_option maxHeartbeats 1600000 in
set_option maxRecDepth 100000 in
theorem fold_Fields (s : ByteArray) (mark : UInt8) (most : Int) (w : World) (hs : s.size ≤ 16777216) (hm : 1 ≤ most) (hm2 : most ≤ 9223372036854775807) :
    Calls Tryd.prog 19 #[.string s, .int .u8 (mark.toNat : Int), .int .i64 most] w (FieldsPost s mark most w) := by
  obtain ⟨i0, hi, hz0, hz1, hz2⟩ := info_parts info_string
  go_enter Tryd.func19, Tryd.ntmps19
  go_wp2_with ((with_reducible refine wpList_bytes (o := ⟨some 16, _, _, _, _, _⟩) rfl 9 29 5 _ rfl s rfl Tryd.underlying9 Tryd.underlying29 Tryd.underlying5 ?_); intro cap w1 hcap hB hb1 hsz1)
  have hcnt := cutAt_le s mark
  go_loopw [8, 9, 18] (fun v f i wr => ∃ k : Nat, k ≤ s.size ∧ i = .int .i64 k ∧ f = .int .i64 (cutAt s mark k).2 ∧ ((cutAt s mark k).1.length : Int) < most ∧
      wr.ownsRow (w.heap.size + 1) 9 1 v (cutAt s mark k).1.length ((cutAt s mark k).1.map strV) ∧ BytesAt wr w.heap.size s.data.toList ∧ Below w.heap.size w wr ∧ w.heap.size < wr.heap.size)
    (fun _ _ i _ => s.size - (intOf i).toNat)
  case atStart => exact ⟨0, Nat.zero_le _, rfl, rfl, by simp [cutAt]; omega, World.ownsRow_nil _ _ _ _, hB, hb1, by omega⟩
  case round =>
    obtain ⟨k, hk, rfl, rfl, hlen, hown, hBr, hbr, hszr⟩ := hrel
    have hc := hcnt k
    clear hcnt
    have hcell : k < s.size → wr.cell? ⟨w.heap.size, k, none⟩ = some (.int .u8 ((byteAt s k).toNat : Int)) := fun h => hBr.byte h
    by_cases hlt : k < s.size
    · by_cases hmk : byteAt s k = mark
      · have e1 := u8_eq hmk
        have hnx : cutAt s mark (k + 1) = ((cutAt s mark k).1 ++ [s.extract (cutAt s mark k).2 k], k + 1) := by rw [cutAt, if_pos hmk]
        have HNX := Lib.hid hnx
        have hmk' := Lib.hid hmk
        clear hnx hmk
        go_wp2_with (at_builtin; refine wpList_append_own _ rfl _ _ 43 rfl (w.heap.size + 1) 9 i0 (.string ByteArray.empty) 1 16 Tryd.underlying43 hi hz0 hz1 hz2 rfl (by decide) _ _ _ rfl (hown.alloc _) ⟨wr.heap.size, 0, none⟩ 1 1 [strV (s.extract (cutAt s mark k).2 k)] rfl rfl ?c1 ?c2 ?c3 ?c4 ?c5 ?_)
        case c1 =>
          intro j u hj
          match j, hj with
          | 0, hj => simp at hj; subst hj; simp [Addr.add, strV]
        case c2 => intro u hu; simp at hu; subst hu; rfl
        case c3 => unfold maxLen; omega
        case c4 => omega
        case c5 => simp; omega
        intro v1 w2 hown1 hg1 _
        have hlt2 := hown.lt
        obtain ⟨g, c2, rfl, hgB, hgl⟩ := ownsRow_form hown1 (by omega)
        have hbr2 : Below w.heap.size w w2 := (hbr.alloc (Nat.le_of_lt hszr) _).grown hg1 (by simp; omega) (fun j hj => by have := (hlt2 j hj).1; omega)
        have hB2 : BytesAt w2 w.heap.size s.data.toList := (hBr.alloc _).grown hg1 (fun h => by have := (hlt2 _ h.symm).1; omega)
        have hs2 : w.heap.size < w2.heap.size := by have := hbr2.size; omega
        clear hg1 hlt2 hown hBr hbr hcell
        by_cases hmo : most ≤ ((cutAt s mark k).1.length : Int) + 1
        · go_wp2_with fail
          refine (api_Fail' _ _ _).mono ?_
          rintro e w3 ⟨v, rfl, hv, hb3⟩
          go_wp2_with fail
          go_ret2
          exact ⟨hbr2.trans (hb3.mono hbr2.size), .inr ⟨k, v, rfl, hlt, hmk'.out, by rw [HNX.out]; simp; omega, hv⟩⟩
        · go_wp2_with fail
          go_roundw
          case rel => exact ⟨k + 1, by omega, by go_num, by rw [HNX.out]; go_num, by rw [HNX.out]; simp; omega, by rw [HNX.out]; simpa using hown1, hB2, hbr2, hs2⟩
          case measure => simp [intOf]; omega
      · have e1 := u8_ne hmk
        have hnx : cutAt s mark (k + 1) = cutAt s mark k := by rw [cutAt, if_neg hmk]
        have HNX := Lib.hid hnx
        clear hnx hmk
        go_wp2_with fail
        go_roundw
        case rel => exact ⟨k + 1, by omega, by go_num, by rw [HNX.out], by rw [HNX.out]; exact hlen, by rw [HNX.out]; exact hown, hBr, hbr, hszr⟩
        case measure => simp [intOf]; omega
    · obtain rfl : k = s.size := by omega
      have hlt2 := hown.lt
      go_wp2_with (at_builtin; refine wpList_append_own _ rfl _ _ 43 rfl (w.heap.size + 1) 9 i0 (.string ByteArray.empty) 1 16 Tryd.underlying43 hi hz0 hz1 hz2 rfl (by decide) _ _ _ rfl (hown.alloc _) ⟨wr.heap.size, 0, none⟩ 1 1 [strV (s.extract (cutAt s mark s.size).2 s.size)] rfl rfl ?c1 ?c2 ?c3 ?c4 ?c5 ?_)
      case c1 =>
        intro j u hj
        match j, hj with
        | 0, hj => simp at hj; subst hj; simp [Addr.add, strV]
      case c2 => intro u hu; simp at hu; subst hu; rfl
      case c3 => unfold maxLen; omega
      case c4 => omega
      case c5 => simp; omega
      intro v1 w2 hown1 hg1 _
      have hbr2 : Below w.heap.size w w2 := (hbr.alloc (Nat.le_of_lt hszr) _).grown hg1 (by simp; omega) (fun j hj => by have := (hlt2 j hj).1; omega)
      clear hg1 hlt2 hown hBr hbr hcell
      go_wp2_with fail
      go_ret2
      exact ⟨hbr2, .inl ⟨v1, rfl, hlen, ownsRow_base (by simpa using hown1) (by omega)⟩⟩

set_option maxHeartbeats 400000 in
theorem fold_Fields_arg (s : ByteArray) (mark : UInt8) (most : Int) (w : World) (hm : most < 1) :
    Calls Tryd.prog 19 #[.string s, .int .u8 (mark.toNat : Int), .int .i64 most] w fun e w' => ∃ v, e = .returned (.tuple #[.slice none 0 0, v]) ∧ IsFault w' v 1 0 ∧ Below w.heap.size w w' := by
  go_enter Tryd.func19, Tryd.ntmps19
  go_wp2_with fail
  refine (api_Fail' _ _ _).mono ?_
  rintro e w3 ⟨v, rfl, hv, hb3⟩
  go_wp2_with fail
  go_ret2
  exact ⟨v, rfl, hv, hb3⟩
end Go.Proofs.YtpaeloadmjblpaaDoor
