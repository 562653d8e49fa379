/- Of the reference of chapter 02: Has, Same. -/
import Derived.Test.YtiogomkonladaaaKit
namespace Go.Proofs.Ytiogomkonladaaa
open Go.RowKit

/-- Strings stand in the cells of a block, from a place on. -/
def StrRow (w : World) (b off n : Nat) (l : List ByteArray) : Prop := l.length = n ∧ ∀ i, i < n → w.cell? ⟨b, off + i, none⟩ = some (.string (l.getD i ByteArray.empty))
theorem StrRow.below {w w' : World} {b off n B : Nat} {l : List ByteArray} (h : StrRow w b off n l) (hb : Below B w w') (hg : b < B) : StrRow w' b off n l :=
  ⟨h.1, fun i hi => (hb.cell (p := ⟨b, off + i, none⟩) hg).trans (h.2 i hi)⟩
theorem StrRow.drewN {w : World} {b off n : Nat} {l : List ByteArray} (h : StrRow w b off n l) (m : Nat) : StrRow (w.drewN m) b off n l := h
theorem StrRow.of_own {w : World} {base : Nat} {e : TypeId} {g n cap : Nat} {l : List ByteArray} (h : w.ownsRow base e 1 (.slice (some ⟨g, 0, none⟩) n cap) n (l.map strV)) : StrRow w g 0 n l := by
  have hl : l.length = n := by have := h.1; simpa using this
  refine ⟨hl, fun i hi => ?_⟩
  rw [Nat.zero_add, h.cellAt i (by omega)]
  simp [strV, hl, hi]

def hasB (s : ByteArray) (c : UInt8) : Bool := (List.range s.size).any fun i => byteAt s i == c
theorem hasB_yes {s : ByteArray} {c : UInt8} {k : Nat} (hk : k < s.size) (h : byteAt s k = c) : hasB s c = true := by
  unfold hasB; rw [List.any_eq_true]; exact ⟨k, by simpa using hk, by simpa using h⟩
theorem hasB_no {s : ByteArray} {c : UInt8} (h : ∀ j, j < s.size → byteAt s j ≠ c) : hasB s c = false := by
  unfold hasB; rw [List.any_eq_false]; intro j hj; simpa using h j (by simpa using hj)

theorem str_eqB (a b : ByteArray) : (a.toList == b.toList) = decide (a = b) := by
  rw [ByteArray.toList_eq, ByteArray.toList_eq, Bool.eq_iff_iff]
  simp only [beq_iff_eq, decide_eq_true_eq, Array.toList_inj]
  exact ⟨fun h => by cases a; cases b; simp_all, fun h => by rw [h]⟩


set_option maxHeartbeats 800000 in
theorem ref_Has (s : ByteArray) (c : UInt8) (w : World) (hs : s.size ≤ 140737488351232) :
    Calls Try.prog 6 #[.string s, .int .u8 (c.toNat : Int)] w fun e w' => e = .returned (.bool (hasB s c)) ∧ w = w' := by
  go_enter Try.func6, Try.ntmps6
  go_wp2_with fail
  go_loop [5] (fun i => ∃ k : Nat, k ≤ s.size ∧ i = .int .i64 k ∧ ∀ j, j < k → byteAt s j ≠ c) (fun i => s.size - (intOf i).toNat)
  case atStart => exact ⟨0, Nat.zero_le _, rfl, fun j hj => by omega⟩
  case round =>
    obtain ⟨k, hk, rfl, hall⟩ := hrel
    have HA := Lib.hid hall
    clear hall
    by_cases hlt : k < s.size
    · have hb : byteAt s k = s[k] := by simp [byteAt, List.getD, hlt]; rfl
      by_cases hc : byteAt s k = c
      · have e1 := u8_eq' (hb ▸ hc)
        go_wp2_with fail
        go_ret
        exact ⟨ret_bool (hasB_yes hlt hc).symm, rfl⟩
      · have e1 := u8_ne' (hb ▸ hc)
        go_wp2_with fail
        go_round
        case rel => exact ⟨k + 1, by omega, by go_num, fun j hj => by
          by_cases hjk : j = k
          · subst hjk; exact hc
          · exact HA.out j (by omega)⟩
        case measure => simp [intOf]; omega
    · obtain rfl : k = s.size := by omega
      go_wp2_with fail
      go_ret
      exact ⟨ret_bool (hasB_no HA.out).symm, rfl⟩

set_option maxHeartbeats 1600000 in
theorem ref_Same (b1 o1 n1 c1 b2 o2 n2 c2 : Nat) (l1 l2 : List ByteArray) (w : World) (h1 : StrRow w b1 o1 n1 l1) (h2 : StrRow w b2 o2 n2 l2) (hn1 : n1 ≤ 140737488351232) (hn2 : n2 ≤ 140737488351232) :
    Calls Try.prog 8 #[.slice (some ⟨b1, o1, none⟩) n1 c1, .slice (some ⟨b2, o2, none⟩) n2 c2] w fun e w' => e = .returned (.bool (decide (l1 = l2))) ∧ ∃ m, w.drewN m = w' := by
  by_cases hn : n1 = n2
  · subst hn
    go_enter Try.func8, Try.ntmps8
    go_wp2_with fail
    go_loopw [5] (fun i wr => ∃ k m : Nat, k ≤ n1 ∧ i = .int .i64 k ∧ w.drewN m = wr ∧ ∀ j, j < k → l1.getD j ByteArray.empty = l2.getD j ByteArray.empty) (fun i _ => n1 - (intOf i).toNat)
    case atStart => exact ⟨0, 0, Nat.zero_le _, rfl, rfl, fun j hj => by omega⟩
    case round =>
      obtain ⟨k, m, hk, rfl, rfl, hall⟩ := hrel
      have HA := Lib.hid hall
      clear hall
      by_cases hlt : k < n1
      · have e1 : w.cell? ⟨b1, o1 + k, none⟩ = some (.string (l1.getD k ByteArray.empty)) := h1.2 k hlt
        have e2 : w.cell? ⟨b2, o2 + k, none⟩ = some (.string (l2.getD k ByteArray.empty)) := h2.2 k hlt
        have i1 : (k : Int) < (n1 : Int) := by omega
        generalize hx1 : l1.getD k ByteArray.empty = x1 at e1
        generalize hx2 : l2.getD k ByteArray.empty = x2 at e2
        have HX1 := Lib.hid hx1
        have HX2 := Lib.hid hx2
        clear hx1 hx2
        by_cases hx : x1 = x2
        · have e3 : (x1.toList == x2.toList) = true := by rw [str_eqB]; simpa using hx
          have HX := Lib.hid hx
          clear hx
          go_wp2_with fail
          go_quiet (fail)
          go_wp2_with fail
          go_roundw
          case rel => exact ⟨k + 1, _, by omega, by go_num, rfl, fun j hj => by
            by_cases hjk : j = k
            · subst hjk; rw [HX1.out, HX2.out, HX.out]
            · exact HA.out j (by omega)⟩
          case measure => simp [intOf]; omega
        · have e3 : (x1.toList == x2.toList) = false := by rw [str_eqB]; simpa using hx
          have hne : l1 ≠ l2 := fun h => hx (by rw [← HX1.out, ← HX2.out, h])
          have HNE := Lib.hid hne
          clear hne hx
          go_wp2_with fail
          go_quiet (fail)
          go_wp2_with fail
          go_ret
          exact ⟨ret_bool (decide_eq_false HNE.out).symm, _, (World.drewN_drewN _ _ _).symm⟩
      · obtain rfl : k = n1 := by omega
        have heq : l1 = l2 := by
          refine List.ext_getElem (h1.1.trans h2.1.symm) (fun j h h' => ?_)
          have := HA.out j (by rw [← h1.1]; exact h)
          simpa [List.getD, h, h'] using this
        have HE := Lib.hid heq
        clear heq
        go_wp2_with fail
        go_ret
        exact ⟨ret_bool (decide_eq_true HE.out).symm, _, rfl⟩
  · have e1 : ((n1 : Int) != (n2 : Int)) = true := by simp; omega
    have hne : l1 ≠ l2 := fun h => hn (by rw [← h1.1, ← h2.1, h])
    have HNE := Lib.hid hne
    clear hne hn
    go_enter Try.func8, Try.ntmps8
    go_wp2_with fail
    go_ret
    exact ⟨ret_bool (decide_eq_false HNE.out).symm, 0, rfl⟩
end Go.Proofs.Ytiogomkonladaaa
