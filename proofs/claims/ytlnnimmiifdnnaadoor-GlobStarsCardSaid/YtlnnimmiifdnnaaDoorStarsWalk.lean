/- The walk of GlobStars. -/
import Derived.Test.YtlnnimmiifdnnaaDoorGlobSpeaks
import Derived.Test.YtlnnimmiifdnnaaDoorRefNext
namespace Go.Proofs.YtlnnimmiifdnnaaDoor
open Go.RowKit

/-- What a call keeps. -/
def Kept (w0 W : World) : Prop := Utf8Laid W ∧ Below w0.heap.size w0 W
theorem Kept.below {w0 W W' : World} (h : Kept w0 W) (hb : Below W.heap.size W W') : Kept w0 W' := ⟨h.1.below hb, Bt h.2 hb⟩
theorem Kept.drew {w0 W : World} (h : Kept w0 W) : Kept w0 W.drew := ⟨h.1.drewN 1, h.2.drew⟩

theorem and_16 (a : Int) : 0 ≤ bits .and .i64 a 65535 ∧ bits .and .i64 a 65535 ≤ 65535 := by
  show 0 ≤ IntKind.i64.wrap ((BitVec.ofInt 64 a &&& BitVec.ofInt 64 65535).toNat : Int) ∧ IntKind.i64.wrap ((BitVec.ofInt 64 a &&& BitVec.ofInt 64 65535).toNat : Int) ≤ 65535
  have h : (BitVec.ofInt 64 a &&& BitVec.ofInt 64 65535).toNat ≤ 65535 := by
    rw [BitVec.toNat_and]
    exact Nat.le_trans Nat.and_le_right (by decide)
  rw [IntKind.wrap_i64]
  omega

set_option maxHeartbeats 800000 in
theorem stars_long (p s : ByteArray) (a : Int) (f : Bool) (w : World) (hU : Utf8Laid w) (h : 200 < p.size ∨ (p.size ≤ 200 ∧ 200 < s.size)) :
    Calls Tryd.prog 3 #[.string p, .string s, .int .i64 a, .bool f] w fun e w' => e = .returned (.bool true) ∧ Below w.heap.size w w' := by
  rcases h with h | ⟨h, h'⟩
  all_goals
    go_enter Tryd.func3, Tryd.ntmps3
    go_wp2_with fail
    refine (speaks15 _ hU).mono ?_
    rintro e w1 ⟨rfl, hb1⟩
    go_wp2_with fail
    go_ret
    exact ⟨rfl, hb1⟩

set_option maxHeartbeats 6400000 in
set_option maxRecDepth 100000 in
theorem stars_walk (p s : ByteArray) (a : Int) (f : Bool) (w : World) (hU : Utf8Laid w) (hp : p.size ≤ 200) (hs : s.size ≤ 200) :
    Calls Tryd.prog 3 #[.string p, .string s, .int .i64 a, .bool f] w fun e w' => e = .returned (.bool true) ∧ Below w.heap.size w w' := by
  obtain ⟨hx0, hx1⟩ := and_16 a
  generalize hx : bits .and .i64 a 65535 = x at *
  go_enter Tryd.func3, Tryd.ntmps3
  go_wp2_with fail
  refine (speaks15 _ hU).mono ?_
  rintro e w1 ⟨rfl, hb1⟩
  have hU1 := hU.below hb1
  go_wp2_with fail
  go_loopw [9] (fun v wr => ∃ i : Nat, i ≤ p.size ∧ v = .int .i64 i ∧ w1 = wr) (fun v _ => p.size - (intOf v).toNat)
  case atStart => exact ⟨0, Nat.zero_le _, rfl, rfl⟩
  case round =>
    obtain ⟨i, hil, rfl, rfl⟩ := hrel
    by_cases hlt : i < p.size
    · have hb := byteAt_idx hlt
      by_cases h42 : ((p[i].toNat : Int) == 42) = true
      · by_cases hrem : ((i : Int) == x % (p.size : Int)) = true
        · have hms := match_star p s f i hp hlt (by rw [← hb]; have := h42; simp at this; omega)
          have HMS := Lib.hid hms
          clear hms hb
          have hX : (p.extract 0 i ++ starS ++ p.extract i p.size).size ≤ 401 := by
            rw [size_app, size_app, extract_size p 0 i (by omega) (by omega), extract_size p i p.size (by omega) (by omega)]
            show i - 0 + 1 + _ ≤ _
            omega
          have cM : ∀ (y : ByteArray) W, Kept w W → (y = p ∨ y = p.extract 0 i ++ ⟨#[42]⟩ ++ p.extract i p.size) → Calls Tryd.prog 9 #[.string y, .string s, .bool f] W fun e w' => e = .returned (.bool (matchB p s f)) ∧ Kept w w' := by
            rintro y W hk (rfl | rfl)
            · exact (glob_Match y s f W hk.1 (by omega) (by omega)).mono fun _ _ ⟨a, b⟩ => ⟨a, hk.below b⟩
            · exact (glob_Match _ s f W hk.1 (by have h : (p.extract 0 i ++ ⟨#[42]⟩ ++ p.extract i p.size).size ≤ 401 := hX; omega) (by omega)).mono fun _ _ ⟨a, b⟩ => ⟨by rw [a]; exact congrArg (fun z => Ending.returned (.bool z)) HMS.out, hk.below b⟩
          have CM := Lib.hid cM
          clear cM hX
          generalize matchB p s f = r at *
          have hk1 : Kept w w1 := ⟨hU1, hb1⟩
          have hk2 := hk1.drew
          have z1 : (0 : Int) ≤ (i : Int) := by omega
          have z2 : (i : Int) ≤ (p.size : Int) := by omega
          go_upto_region 9 with (fail)
          go_region_held (Kept w) (first | assumption)
            ((go_at_call 9; refine (CM.out _ _ (by assumption) (by first | exact .inl rfl | exact .inr rfl)).mono ?_; rintro e w5 ⟨rfl, hk5⟩; dsimp only))
          all_goals
            go_wp2_with fail
            go_ret
            exact ⟨by simp, hk5.2⟩
        · have hrem : ((i : Int) == x % (p.size : Int)) = false := by simpa using hrem
          clear hb
          go_wp2_with fail
          go_roundw
          case rel => exact ⟨i + 1, by omega, by go_num, by trivial⟩
          case measure => simp [intOf]; omega
      · have h42 : ((p[i].toNat : Int) == 42) = false := by simpa using h42
        clear hb
        go_wp2_with fail
        go_roundw
        case rel => exact ⟨i + 1, by omega, by go_num, by trivial⟩
        case measure => simp [intOf]; omega
    · obtain rfl : i = p.size := by omega
      have hself := match_self s f hs
      have HSELF := Lib.hid hself
      clear hself
      go_wp2_with ((with_reducible refine wpList_bytes_sl rfl 9 27 5 _ rfl s rfl Tryd.underlying9 Tryd.underlying27 Tryd.underlying5 (by omega) ?_); intro v1 w2 hv1 hb2)
      have hb12 := Bt hb1 hb2
      refine (ref_Chars v1 s _ (by omega) hv1).mono ?_
      rintro e w3 ⟨hb3, h⟩
      have hU3 := (hU1.below hb2).below hb3
      have hb13 := Bt hb12 hb3
      clear hb12 hb2 hb3 hb1 hU1
      have hle : leadS s = s → leadN s = s.size := fun e => by
        have h1 : (leadS s).size = leadN s := by
          have := (leadN_spec s).1
          unfold leadS; rw [extract_size s 0 _ (by omega) this]; omega
        rw [e] at h1
        exact h1.symm
      have cL := Lib.hid (fun W => glob_Lead s W (by omega))
      have cM := Lib.hid (fun W h => glob_Match s s f W h (by omega) (by omega))
      have HLE := Lib.hid hle
      clear hle
      by_cases hl : leadS s = s
      · have hv := HSELF.out (HLE.out hl)
        rw [hl] at cL
        have e1 : (s.toList != s.toList) = false := by simp
        have HV := Lib.hid hv
        clear hl hv HLE HSELF
        generalize matchB s s f = r at *
        rcases h with ⟨hn, v3, rfl, _⟩ | ⟨k, hk, a3, rfl⟩
        · have hr : r = true := by rw [HV.out, hn]; rfl
          subst hr
          clear hn
          go_wp2_with fail
          refine (cL.out _).mono ?_
          rintro e w4 ⟨rfl, rfl⟩
          go_wp2_with fail
          refine (cM.out _ hU3).mono ?_
          rintro e w4 ⟨rfl, hb4⟩
          have hb5 := Bt hb13 hb4
          go_wp2_with fail
          go_ret
          exact ⟨rfl, hb5⟩
        · have hr : r = false := by rw [HV.out, hk]; rfl
          subst hr
          clear hk
          go_wp2_with fail
          refine (cL.out _).mono ?_
          rintro e w4 ⟨rfl, rfl⟩
          go_wp2_with fail
          refine (cM.out _ hU3).mono ?_
          rintro e w4 ⟨rfl, hb4⟩
          have hb5 := Bt hb13 hb4
          go_wp2_with fail
          go_ret
          exact ⟨ret_bool (by simp), hb5⟩
      · have e1 : ((leadS s).toList != s.toList) = true := by
          rw [bne_iff_ne]
          intro e
          rw [ByteArray.toList_eq, ByteArray.toList_eq] at e
          exact hl (ByteArray.ext (Array.ext' e))
        have e2 : ((leadS s).toList == s.toList) = false := by rw [beq_eq_false_iff_ne]; exact bne_iff_ne.1 e1
        clear hl HLE HSELF
        generalize leadS s = ls at *
        rcases h with ⟨hn, v3, rfl, _⟩ | ⟨k, hk, a3, rfl⟩
        · clear hn
          go_wp2_with fail
          refine (cL.out _).mono ?_
          rintro e w4 ⟨rfl, rfl⟩
          go_wp2_with fail
          go_ret
          exact ⟨rfl, hb13⟩
        · clear hk
          go_wp2_with fail
          refine (cL.out _).mono ?_
          rintro e w4 ⟨rfl, rfl⟩
          go_wp2_with fail
          go_ret
          exact ⟨rfl, hb13⟩

theorem walkGlobStars (p s : ByteArray) (a : Int) (f : Bool) (w : World) (hU : Utf8Laid w) (_ : p.size ≤ maxLen) (_ : s.size ≤ maxLen) (_ : (Lit.int .i64 a).wf = true) : Calls Tryd.prog 3 #[.string p, .string s, .int .i64 a, .bool f] w fun e w' => e = .returned (.bool true) ∧ Below w.heap.size w w' := by
  by_cases h : p.size ≤ 200 ∧ s.size ≤ 200
  · exact stars_walk p s a f w hU h.1 h.2
  · exact stars_long p s a f w hU (by omega)
end Go.Proofs.YtlnnimmiifdnnaaDoor
