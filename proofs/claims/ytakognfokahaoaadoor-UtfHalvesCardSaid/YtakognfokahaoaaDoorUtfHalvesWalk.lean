/- The walk of UtfHalves. -/
import Derived.Test.YtakognfokahaoaaDoorRefUtf
import Derived.Test.YtakognfokahaoaaDoorSpeaks01
import Derived.Laws.BitsLemmas
namespace Go.Proofs.YtakognfokahaoaaDoor
open Go.RowKit

set_option maxHeartbeats 800000 in
theorem utf_Half (n : Int) (w : World) : Calls Tryd.prog 21 #[.int .i64 n] w fun e w' => e = .returned (.int .i64 (halfZ n)) ∧ w = w' := by
  have hc : n < 55296 ∨ (55296 ≤ n ∧ n < 56320) ∨ (56320 ≤ n ∧ n < 57344) ∨ 57344 ≤ n := by omega
  have h0 : n < 55296 ∨ 57344 ≤ n → halfZ n = 0 := by intro h; unfold halfZ; rw [if_neg (by omega), if_neg (by omega)]
  have h1 : 55296 ≤ n ∧ n < 56320 → halfZ n = 1 := by intro h; unfold halfZ; rw [if_pos h]
  have h2 : 56320 ≤ n ∧ n < 57344 → halfZ n = 2 := by intro h; unfold halfZ; rw [if_neg (by omega), if_pos h]
  have H0 := Lib.hid h0
  have H1 := Lib.hid h1
  have H2 := Lib.hid h2
  clear h0 h1 h2
  rcases hc with h | ⟨h, h'⟩ | ⟨h, h'⟩ | h
  all_goals
    go_enter Tryd.func21, Tryd.ntmps21
    go_wp2
    go_ret
  · exact ⟨ret_i64 (H0.out (by omega)).symm, rfl⟩
  · exact ⟨ret_i64 (H1.out (by omega)).symm, rfl⟩
  · exact ⟨ret_i64 (H2.out (by omega)).symm, rfl⟩
  · exact ⟨ret_i64 (H0.out (by omega)).symm, rfl⟩

theorem bits_and1023 (x : Int) (h0 : 0 ≤ x) (h1 : x < 4294967296) : bits .and .i64 x 1023 = x % 1024 := by
  have e : (2 : Int) ^ 62 = 4611686018427387904 := by decide
  have h := bits_mask .i64 62 (by decide) (fun n a b => by rw [e] at b; rw [IntKind.wrap_i64]; omega) 10 (by decide) x h0 (by rw [e]; omega)
  have e1 : ((2 : Int) ^ 10 - 1) = 1023 := by decide
  have e2 : ((2 : Int) ^ 10) = 1024 := by decide
  rw [e1, e2] at h
  exact h

/-- The character of two halves. -/
def wholeZ (h l : Int) : Int := if halfZ h = 1 ∧ halfZ l = 2 then 65536 + 1024 * (h - 55296) + (l - 56320) else 0
def wholeB (h l : Int) : Bool := decide (halfZ h = 1 ∧ halfZ l = 2)
theorem wholeZ_yes {h l : Int} (a : halfZ h = 1) (b : halfZ l = 2) : wholeZ h l = 65536 + 1024 * (h - 55296) + (l - 56320) := by unfold wholeZ; rw [if_pos ⟨a, b⟩]
theorem wholeZ_no {h l : Int} (a : ¬ (halfZ h = 1 ∧ halfZ l = 2)) : wholeZ h l = 0 := by unfold wholeZ; rw [if_neg a]
theorem ret_whole {h l x : Int} {c : Bool} (hx : x = wholeZ h l) (hc : c = wholeB h l) : Ending.returned (.tuple #[.int .i64 x, .bool c]) = .returned (.tuple #[.int .i64 (wholeZ h l), .bool (wholeB h l)]) := by rw [hx, hc]
theorem half1 {n : Int} (h : halfZ n = 1) : 55296 ≤ n ∧ n < 56320 := by
  unfold halfZ at h; split at h
  · assumption
  · split at h <;> simp at h
theorem half2 {n : Int} (h : halfZ n = 2) : 56320 ≤ n ∧ n < 57344 := by
  unfold halfZ at h; split at h
  · simp at h
  · split at h
    · assumption
    · simp at h

set_option maxHeartbeats 800000 in
theorem utf_Whole (h l : Int) (w : World) : Calls Tryd.prog 19 #[.int .i64 h, .int .i64 l] w fun e w' => e = .returned (.tuple #[.int .i64 (wholeZ h l), .bool (wholeB h l)]) ∧ w = w' := by
  by_cases a1 : halfZ h = 1
  · by_cases a2 : halfZ l = 2
    · obtain ⟨p1, p2⟩ := half1 a1
      obtain ⟨p3, p4⟩ := half2 a2
      have HW := Lib.hid (show wholeB h l = true by unfold wholeB; exact decide_eq_true ⟨a1, a2⟩)
      have HZ := Lib.hid (wholeZ_yes a1 a2)
      have cH := Lib.hid (fun W => a1 ▸ utf_Half h W)
      have cL := Lib.hid (fun W => a2 ▸ utf_Half l W)
      clear a1 a2
      go_enter Tryd.func19, Tryd.ntmps19
      go_wp2_with fail
      refine (cH.out _).mono ?_
      rintro e w1 ⟨rfl, rfl⟩
      go_wp2_with fail
      refine (cL.out _).mono ?_
      rintro e w2 ⟨rfl, rfl⟩
      go_wp2_with fail
      go_ret2
      exact ⟨ret_whole (by rw [HZ.out]; omega) HW.out.symm, rfl⟩
    · have HW := Lib.hid (show wholeB h l = false by unfold wholeB; exact decide_eq_false fun x => a2 x.2)
      have HZ := Lib.hid (wholeZ_no (h := h) (l := l) fun x => a2 x.2)
      have e2 : (halfZ l == 2) = false := by rw [beq_eq_false_iff_ne]; exact a2
      have e3 : (halfZ l != 2) = true := by rw [bne_iff_ne]; exact a2
      have cH := Lib.hid (fun W => a1 ▸ utf_Half h W)
      clear a1 a2
      go_enter Tryd.func19, Tryd.ntmps19
      go_wp2_with fail
      refine (cH.out _).mono ?_
      rintro e w1 ⟨rfl, rfl⟩
      go_wp2_with fail
      refine (utf_Half _ _).mono ?_
      rintro e w2 ⟨rfl, rfl⟩
      go_wp2_with fail
      go_ret2
      exact ⟨ret_whole HZ.out.symm HW.out.symm, rfl⟩
  · have HW := Lib.hid (show wholeB h l = false by unfold wholeB; exact decide_eq_false fun x => a1 x.1)
    have HZ := Lib.hid (wholeZ_no (h := h) (l := l) fun x => a1 x.1)
    have e2 : (halfZ h == 1) = false := by rw [beq_eq_false_iff_ne]; exact a1
    have e3 : (halfZ h != 1) = true := by rw [bne_iff_ne]; exact a1
    clear a1
    go_enter Tryd.func19, Tryd.ntmps19
    go_wp2_with fail
    refine (utf_Half _ _).mono ?_
    rintro e w2 ⟨rfl, rfl⟩
    go_wp2_with fail
    go_ret2
    exact ⟨ret_whole HZ.out.symm HW.out.symm, rfl⟩

set_option maxHeartbeats 800000 in
theorem ref_Whole (h l : Int) (w : World) : Calls Tryd.prog 20 #[.int .i64 h, .int .i64 l] w fun e w' => e = .returned (.tuple #[.int .i64 (wholeZ h l), .bool (wholeB h l)]) ∧ w = w' := by
  by_cases a1 : halfZ h = 1
  · by_cases a2 : halfZ l = 2
    · obtain ⟨p1, p2⟩ := half1 a1
      obtain ⟨p3, p4⟩ := half2 a2
      have HW := Lib.hid (show wholeB h l = true by unfold wholeB; exact decide_eq_true ⟨a1, a2⟩)
      have HZ := Lib.hid (wholeZ_yes a1 a2)
      have cH := Lib.hid (fun W => a1 ▸ ref_Half h W)
      have cL := Lib.hid (fun W => a2 ▸ ref_Half l W)
      clear a1 a2
      go_enter Tryd.func20, Tryd.ntmps20
      go_wp2_with fail
      refine (cH.out _).mono ?_
      rintro e w1 ⟨rfl, rfl⟩
      go_wp2_with fail
      refine (cL.out _).mono ?_
      rintro e w2 ⟨rfl, rfl⟩
      go_wp2_with fail
      go_ret2
      exact ⟨ret_whole (by rw [HZ.out]) HW.out.symm, rfl⟩
    · have HW := Lib.hid (show wholeB h l = false by unfold wholeB; exact decide_eq_false fun x => a2 x.2)
      have HZ := Lib.hid (wholeZ_no (h := h) (l := l) fun x => a2 x.2)
      have e2 : (halfZ l == 2) = false := by rw [beq_eq_false_iff_ne]; exact a2
      have e3 : (halfZ l != 2) = true := by rw [bne_iff_ne]; exact a2
      have cH := Lib.hid (fun W => a1 ▸ ref_Half h W)
      clear a1 a2
      go_enter Tryd.func20, Tryd.ntmps20
      go_wp2_with fail
      refine (cH.out _).mono ?_
      rintro e w1 ⟨rfl, rfl⟩
      go_wp2_with fail
      refine (ref_Half _ _).mono ?_
      rintro e w2 ⟨rfl, rfl⟩
      go_wp2_with fail
      go_ret2
      exact ⟨ret_whole HZ.out.symm HW.out.symm, rfl⟩
  · have HW := Lib.hid (show wholeB h l = false by unfold wholeB; exact decide_eq_false fun x => a1 x.1)
    have HZ := Lib.hid (wholeZ_no (h := h) (l := l) fun x => a1 x.1)
    have e2 : (halfZ h == 1) = false := by rw [beq_eq_false_iff_ne]; exact a1
    have e3 : (halfZ h != 1) = true := by rw [bne_iff_ne]; exact a1
    clear a1
    go_enter Tryd.func20, Tryd.ntmps20
    go_wp2_with fail
    refine (ref_Half _ _).mono ?_
    rintro e w2 ⟨rfl, rfl⟩
    go_wp2_with fail
    go_ret2
    exact ⟨ret_whole HZ.out.symm HW.out.symm, rfl⟩

def wideB (n : Int) : Bool := decide (65536 ≤ n ∧ n < 1114112)
def hiZ (n : Int) : Int := if 65536 ≤ n ∧ n < 1114112 then 55296 + (n - 65536) / 1024 else 0
def loZ (n : Int) : Int := if 65536 ≤ n ∧ n < 1114112 then 56320 + (n - 65536) % 1024 else 0
theorem hiZ_yes {n : Int} (a : 65536 ≤ n ∧ n < 1114112) : hiZ n = 55296 + (n - 65536) / 1024 := by unfold hiZ; rw [if_pos a]
theorem loZ_yes {n : Int} (a : 65536 ≤ n ∧ n < 1114112) : loZ n = 56320 + (n - 65536) % 1024 := by unfold loZ; rw [if_pos a]
theorem hiZ_no {n : Int} (a : ¬ (65536 ≤ n ∧ n < 1114112)) : hiZ n = 0 := by unfold hiZ; rw [if_neg a]
theorem loZ_no {n : Int} (a : ¬ (65536 ≤ n ∧ n < 1114112)) : loZ n = 0 := by unfold loZ; rw [if_neg a]
theorem ret_halves {n x y : Int} {c : Bool} (hx : x = hiZ n) (hy : y = loZ n) (hc : c = wideB n) : Ending.returned (.tuple #[.int .i64 x, .int .i64 y, .bool c]) = .returned (.tuple #[.int .i64 (hiZ n), .int .i64 (loZ n), .bool (wideB n)]) := by rw [hx, hy, hc]

set_option maxHeartbeats 800000 in
theorem utf_Halves (n : Int) (w : World) : Calls Tryd.prog 23 #[.int .i64 n] w fun e w' => e = .returned (.tuple #[.int .i64 (hiZ n), .int .i64 (loZ n), .bool (wideB n)]) ∧ w = w' := by
  by_cases a : 65536 ≤ n ∧ n < 1114112
  · have HH := Lib.hid (hiZ_yes a)
    have HL := Lib.hid (loZ_yes a)
    have HW := Lib.hid (show wideB n = true from decide_eq_true a)
    obtain ⟨a1, a2⟩ := a
    have hb := bits_and1023 (n - 65536) (by omega) (by omega)
    have hm0 : 0 ≤ (n - 65536) % 1024 := by omega
    have hm1 : (n - 65536) % 1024 ≤ 1023 := by omega
    go_enter Tryd.func23, Tryd.ntmps23
    go_wp2_with fail
    go_ret3
    exact ⟨ret_halves (by rw [HH.out]) (by rw [HL.out]) HW.out.symm, rfl⟩
  · have HH := Lib.hid (hiZ_no a)
    have HL := Lib.hid (loZ_no a)
    have HW := Lib.hid (show wideB n = false from decide_eq_false a)
    have a' : n < 65536 ∨ (65536 ≤ n ∧ 1114112 ≤ n) := by omega
    clear a
    rcases a' with a1 | ⟨a1, a2⟩
    all_goals
      go_enter Tryd.func23, Tryd.ntmps23
      go_wp2_with fail
      go_ret3
      exact ⟨ret_halves HH.out.symm HL.out.symm HW.out.symm, rfl⟩

theorem hilo {n : Int} (a1 : 65536 ≤ n) (a2 : n < 1114112) : halfZ (hiZ n) = 1 ∧ halfZ (loZ n) = 2 ∧ wholeZ (hiZ n) (loZ n) = n := by
  have h1 : halfZ (hiZ n) = 1 := by rw [hiZ_yes ⟨a1, a2⟩]; unfold halfZ; rw [if_pos (by omega)]
  have h2 : halfZ (loZ n) = 2 := by rw [loZ_yes ⟨a1, a2⟩]; unfold halfZ; rw [if_neg (by omega), if_pos (by omega)]
  refine ⟨h1, h2, ?_⟩
  rw [wholeZ_yes h1 h2, hiZ_yes ⟨a1, a2⟩, loZ_yes ⟨a1, a2⟩]
  omega

set_option maxHeartbeats 800000 in
theorem walkUtfHalves (n low : Int) (w : World) (hg : Handle w) (hU : Utf8Laid w) (_ : (Lit.int .i64 n).wf = true) (_ : (Lit.int .i64 low).wf = true) :
    Calls Tryd.prog 6 #[.int .i64 n, .int .i64 low] w fun e w' => e = .returned (.bool true) ∧ Below w.heap.size w w' := by
  have cW := Lib.hid (utf_Whole n low)
  have cR := Lib.hid (ref_Whole n low)
  have cH := Lib.hid (utf_Half n)
  have cG := Lib.hid (ref_Half n)
  have cA := Lib.hid (utf_Halves n)
  have cB := Lib.hid (ref_Whole (hiZ n) (loZ n))
  have hilo' := Lib.hid (fun a b => @hilo n a b)
  have hno := Lib.hid (fun a => And.intro (@hiZ_no n a) (@loZ_no n a))
  have hwB : wideB n = decide (65536 ≤ n ∧ n < 1114112) := rfl
  have HW := Lib.hid hwB
  clear hwB
  generalize wholeZ n low = z at *
  generalize wholeB n low = zb at *
  generalize halfZ n = z2 at *
  go_enter Tryd.func6, Tryd.ntmps6
  go_wp2_with fail
  refine (speaks01 _ hg hU).mono ?_
  rintro e w1 ⟨rfl, hb1⟩
  clear hg hU
  go_wp2_with fail
  refine (cW.out _).mono ?_
  rintro e w2 ⟨rfl, rfl⟩
  go_wp2_with fail
  refine (cR.out _).mono ?_
  rintro e w2 ⟨rfl, rfl⟩
  cases zb
  all_goals
    go_wp2_with fail
    refine (cH.out _).mono ?_
    rintro e w2 ⟨rfl, rfl⟩
    go_wp2_with fail
    refine (cG.out _).mono ?_
    rintro e w2 ⟨rfl, rfl⟩
    by_cases a : 65536 ≤ n ∧ n < 1114112
    · obtain ⟨a1, a2⟩ := a
      rw [HW.out, decide_eq_true ⟨a1, a2⟩] at cA
      have hb := hilo'.out a1 a2
      have hwb : wholeB (hiZ n) (loZ n) = true := decide_eq_true ⟨hb.1, hb.2.1⟩
      rw [hb.2.2, hwb] at cB
      clear hb hwb
      generalize hiZ n = q1 at *
      generalize loZ n = q2 at *
      go_wp2_with fail
      refine (cA.out _).mono ?_
      rintro e w2 ⟨rfl, rfl⟩
      go_wp2_with fail
      refine (cB.out _).mono ?_
      rintro e w2 ⟨rfl, rfl⟩
      go_wp2_with fail
      go_ret
      exact ⟨rfl, hb1⟩
    · rw [HW.out, decide_eq_false a, (hno.out a).1, (hno.out a).2] at cA
      have a' : n < 65536 ∨ (65536 ≤ n ∧ 1114112 ≤ n) := by omega
      clear a
      rcases a' with a1 | ⟨a1, a2⟩
      all_goals
        go_wp2_with fail
        refine (cA.out _).mono ?_
        rintro e w2 ⟨rfl, rfl⟩
        go_wp2_with fail
        go_ret
        exact ⟨rfl, hb1⟩
end Go.Proofs.YtakognfokahaoaaDoor
