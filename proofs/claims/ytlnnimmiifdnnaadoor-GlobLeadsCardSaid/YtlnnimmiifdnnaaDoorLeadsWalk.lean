/- The walk of GlobLeads. -/
import Derived.Test.YtlnnimmiifdnnaaDoorGlobSpeaks
import Derived.Test.YtlnnimmiifdnnaaDoorRefText
namespace Go.Proofs.YtlnnimmiifdnnaaDoor
open Go.RowKit

set_option maxHeartbeats 800000 in
theorem leads_long (p s m : ByteArray) (w : World) (hU : Utf8Laid w) (h : 200 < p.size ∨ (p.size ≤ 200 ∧ 200 < s.size) ∨ (p.size ≤ 200 ∧ s.size ≤ 200 ∧ 200 < m.size)) :
    Calls Tryd.prog 4 #[.string p, .string s, .string m] w fun e w' => e = .returned (.bool true) ∧ Below w.heap.size w w' := by
  rcases h with h | ⟨h, h'⟩ | ⟨h, h', h2⟩
  all_goals
    go_enter Tryd.func4, Tryd.ntmps4
    go_wp2_with fail
    refine (speaks15 _ hU).mono ?_
    rintro e w1 ⟨rfl, hb1⟩
    go_wp2_with fail
    go_ret
    exact ⟨rfl, hb1⟩

theorem own_len {w : World} {base : Nat} {e : TypeId} {v : Value} {n : Nat} {xs : List Value} (h : w.ownsRow base e 1 v n xs) : ∃ a c, v = .slice a n c := row_len h

set_option maxHeartbeats 6400000 in
set_option maxRecDepth 100000 in
theorem leads_walk (p s m : ByteArray) (w : World) (hU : Utf8Laid w) (hp : p.size ≤ 200) (hs : s.size ≤ 200) (hm : m.size ≤ 200) :
    Calls Tryd.prog 4 #[.string p, .string s, .string m] w fun e w' => e = .returned (.bool true) ∧ Below w.heap.size w w' := by
  have c1 := Lib.hid (fun W h => glob_Match p s false W h (by omega) (by omega))
  by_cases hmt : matchB p s false = true
  · have c2 := Lib.hid (fun W h => match_fold hmt ▸ glob_Match p s true W h (by omega) (by omega))
    have cl := Lib.hid (fun W => glob_Lead p W (by omega))
    have cn := Lib.hid (fun W h => glob_Least p W h (by omega))
    obtain ⟨hl1, hl2⟩ := match_lead hmt
    have hl3 := match_least hmt
    have hbeh := fun h => match_behind (more := m) hp hmt h
    have hah := fun h => match_ahead (more := m) hp hmt h
    have e1 : ((s.extract 0 (leadS p).size).toList == (leadS p).toList) = true := by rw [hl2]; exact beq_self_eq_true _
    have hcz := chrs_len s
    rw [hmt] at c1
    have c3 := Lib.hid (fun W h hn => hbeh hn ▸ glob_Match (p ++ starS) (s ++ m) false W h (by rw [size_app]; show p.size + 1 ≤ _; omega) (by rw [size_app]; omega))
    have c4 := Lib.hid (fun W h hn => hah hn ▸ glob_Match (starS ++ p) (m ++ s) false W h (by rw [size_app]; show 1 + p.size ≤ _; omega) (by rw [size_app]; omega))
    have HMT := Lib.hid hmt
    clear hmt hl2 hbeh hah
    generalize leadS p = ls at *
    generalize leastN p = ln at *
    generalize hcl : (chrs s).1.length = cn1 at *
    have HCL := Lib.hid hcl
    clear hcl
    go_enter Tryd.func4, Tryd.ntmps4
    go_wp2_with fail
    refine (speaks15 _ hU).mono ?_
    rintro e w1 ⟨rfl, hb1⟩
    have hU1 := hU.below hb1
    go_wp2_with fail
    refine (c1.out _ hU1).mono ?_
    rintro e w2 ⟨rfl, hb2⟩
    have hU2 := hU1.below hb2
    have hb12 := Bt hb1 hb2
    clear hb1 hb2 hU1
    go_wp2_with fail
    refine (cl.out _).mono ?_
    rintro e w3 ⟨rfl, rfl⟩
    go_wp2_with ((with_reducible refine wpList_bytes_sl rfl 9 27 5 _ rfl s rfl Tryd.underlying9 Tryd.underlying27 Tryd.underlying5 (by omega) ?_); intro v1 w4 hv1 hb4)
    have hU4 := hU2.below hb4
    have hb14 := Bt hb12 hb4
    clear hb12 hb4 hU2
    refine (ref_Chars v1 s _ (by omega) hv1).mono ?_
    rintro e w5 ⟨hb5, h⟩
    have hU5 := hU4.below hb5
    have hb15 := Bt hb14 hb5
    clear hb14 hb5 hU4
    rcases h with ⟨hn, v3, rfl, hown⟩ | ⟨k, hk, a3, rfl⟩
    · rw [HCL.out] at hown
      obtain ⟨a6, c6, rfl⟩ := own_len hown
      clear hn hown
      go_wp2_with fail
      refine (cn.out _ hU5).mono ?_
      rintro e w6 ⟨rfl, hb6⟩
      have hU6 := hU5.below hb6
      have hb16 := Bt hb15 hb6
      clear hb15 hb6 hU5
      go_wp2_with fail
      refine (c2.out _ hU6).mono ?_
      rintro e w7 ⟨rfl, hb7⟩
      have hU7 := hU6.below hb7
      have hb17 := Bt hb16 hb7
      clear hb16 hb7 hU6
      go_wp2_with ((with_reducible refine wpList_bytes_sl rfl 9 27 5 _ rfl m rfl Tryd.underlying9 Tryd.underlying27 Tryd.underlying5 (by omega) ?_); intro v8 w8 hv8 hb8)
      have hU8 := hU7.below hb8
      have hb18 := Bt hb17 hb8
      clear hb17 hb8 hU7
      refine (ref_Chars v8 m _ (by omega) hv8).mono ?_
      rintro e w9 ⟨hb9, h⟩
      have hU9 := hU8.below hb9
      have hb19 := Bt hb18 hb9
      clear hb18 hb9 hU8
      rcases h with ⟨hn, v9, rfl, hown⟩ | ⟨k, hk, a3, rfl⟩
      · have C3 := Lib.hid (fun W h => c3.out W h hn)
        have C4 := Lib.hid (fun W h => c4.out W h hn)
        clear c3 c4 hn hown
        go_wp2_with fail
        refine (C3.out _ hU9).mono ?_
        rintro e w10 ⟨rfl, hb10⟩
        have hU10 := hU9.below hb10
        have hb20 := Bt hb19 hb10
        go_wp2_with fail
        refine (C4.out _ hU10).mono ?_
        rintro e w11 ⟨rfl, hb11⟩
        have hb21 := Bt hb20 hb11
        go_wp2_with fail
        go_ret
        exact ⟨rfl, hb21⟩
      · clear hk
        go_wp2_with fail
        go_ret
        exact ⟨rfl, hb19⟩
    · have := ((matchB_iff p s false).1 HMT.out).2.2.1
      rw [hk] at this
      cases this
  · have hmt : matchB p s false = false := by simpa using hmt
    rw [hmt] at c1
    clear hmt
    go_enter Tryd.func4, Tryd.ntmps4
    go_wp2_with fail
    refine (speaks15 _ hU).mono ?_
    rintro e w1 ⟨rfl, hb1⟩
    have hU1 := hU.below hb1
    go_wp2_with fail
    refine (c1.out _ hU1).mono ?_
    rintro e w2 ⟨rfl, hb2⟩
    have hb12 := Bt hb1 hb2
    go_wp2_with fail
    go_ret
    exact ⟨rfl, hb12⟩

theorem walkGlobLeads (p s m : ByteArray) (w : World) (hU : Utf8Laid w) (_ : p.size ≤ maxLen) (_ : s.size ≤ maxLen) (_ : m.size ≤ maxLen) : Calls Tryd.prog 4 #[.string p, .string s, .string m] w fun e w' => e = .returned (.bool true) ∧ Below w.heap.size w w' := by
  by_cases h : p.size ≤ 200 ∧ s.size ≤ 200 ∧ m.size ≤ 200
  · exact leads_walk p s m w hU h.1 h.2.1 h.2.2
  · exact leads_long p s m w hU (by omega)
end Go.Proofs.YtlnnimmiifdnnaaDoor
