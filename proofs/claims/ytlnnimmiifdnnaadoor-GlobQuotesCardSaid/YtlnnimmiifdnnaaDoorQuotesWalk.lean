/- The walk of GlobQuotes. -/
import Derived.Test.YtlnnimmiifdnnaaDoorGlobQuote
import Derived.Test.YtlnnimmiifdnnaaDoorGlobSpeaks
import Derived.Test.YtlnnimmiifdnnaaDoorRefText
namespace Go.Proofs.YtlnnimmiifdnnaaDoor
open Go.RowKit

set_option maxHeartbeats 800000 in
theorem quotes_long (s o : ByteArray) (w : World) (hU : Utf8Laid w) (h : 400 < s.size ∨ (s.size ≤ 400 ∧ 400 < o.size)) :
    Calls Tryd.prog 5 #[.string s, .string o] w fun e w' => e = .returned (.bool true) ∧ Below w.heap.size w w' := by
  rcases h with h | ⟨h, h'⟩
  all_goals
    go_enter Tryd.func5, Tryd.ntmps5
    go_wp2_with fail
    refine (speaks15 _ hU).mono ?_
    rintro e w1 ⟨rfl, hb1⟩
    go_wp2_with fail
    go_ret
    exact ⟨rfl, hb1⟩

set_option maxHeartbeats 6400000 in
set_option maxRecDepth 100000 in
theorem quotes_walk (s o : ByteArray) (w : World) (hU : Utf8Laid w) (hs : s.size ≤ 400) (ho : o.size ≤ 400) :
    Calls Tryd.prog 5 #[.string s, .string o] w fun e w' => e = .returned (.bool true) ∧ Below w.heap.size w w' := by
  have hqs := quote_size s
  have cq := Lib.hid (fun W => glob_Quote s W (by omega))
  have cr := Lib.hid (fun W => ref_Quote s W (by omega))
  have c1 := Lib.hid (fun W h => glob_Simple (quoteS s) s W h (by omega) (by omega))
  have c2 := Lib.hid (fun W h => glob_Simple (quoteS s) o W h (by omega) (by omega))
  have hv := fun h => simple_quote s s hs h
  have hv2 := fun h => simple_quote s o hs h
  have hbad := fun i h => simpleB_bad (quoteS s) s (i := i) h
  have HV := Lib.hid hv
  have HV2 := Lib.hid hv2
  have HBAD := Lib.hid hbad
  clear hv hv2 hbad hqs
  generalize hq : quoteS s = q at *
  have e1 : (q.toList == q.toList) = true := beq_self_eq_true _
  clear hq
  go_enter Tryd.func5, Tryd.ntmps5
  go_wp2_with fail
  refine (speaks15 _ hU).mono ?_
  rintro e w1 ⟨rfl, hb1⟩
  have hU1 := hU.below hb1
  go_wp2_with fail
  refine (cq.out _).mono ?_
  rintro e w2 ⟨rfl, hb2⟩
  have hU2 := hU1.below hb2
  have hb12 := Bt hb1 hb2
  clear hb1 hb2 hU1
  go_wp2_with ((with_reducible refine wpList_bytes_sl rfl 9 27 5 _ rfl s rfl Tryd.underlying9 Tryd.underlying27 Tryd.underlying5 (by omega) ?_); intro v1 w4 hv1 hb4)
  have hU4 := hU2.below hb4
  have hb14 := Bt hb12 hb4
  clear hb12 hb4 hU2
  refine (ref_Chars v1 s _ (by omega) hv1).mono ?_
  rintro e w5 ⟨hb5, h⟩
  have hU5 := hU4.below hb5
  have hb15 := Bt hb14 hb5
  clear hb14 hb5 hU4
  rcases h with ⟨hn, v3, rfl, hown⟩ | ⟨k, hk, a3, rfl⟩
  · have h1 : simpleB q s = true := by rw [HV.out hn]; simp
    have h2 := HV2.out hn
    rw [h1] at c1
    rw [h2] at c2
    clear hn h1 h2 hown
    have e2 : (o.toList == s.toList) = decide (o = s) := by
      rw [ByteArray.toList_eq, ByteArray.toList_eq, Bool.eq_iff_iff]
      simp only [beq_iff_eq, decide_eq_true_eq, Array.toList_inj]
      exact ⟨fun h => ByteArray.ext h, fun h => by rw [h]⟩
    have E2 := Lib.hid e2
    clear e2
    go_wp2_with fail
    refine (cr.out _).mono ?_
    rintro e w6 ⟨rfl, rfl⟩
    go_wp2_with fail
    refine (c1.out _ hU5).mono ?_
    rintro e w7 ⟨rfl, hb7⟩
    have hU7 := hU5.below hb7
    have hb17 := Bt hb15 hb7
    clear hb15 hb7 hU5
    go_wp2_with fail
    refine (c2.out _ hU7).mono ?_
    rintro e w8 ⟨rfl, hb8⟩
    have hb18 := Bt hb17 hb8
    clear hb17 hb8 hU7
    rw [← E2.out]
    go_wp2_with fail
    go_ret
    exact ⟨ret_bool (by simp), hb18⟩
  · have h1 := HBAD.out k hk
    rw [h1] at c1
    clear hk h1
    go_wp2_with fail
    refine (cr.out _).mono ?_
    rintro e w6 ⟨rfl, rfl⟩
    go_wp2_with fail
    refine (c1.out _ hU5).mono ?_
    rintro e w7 ⟨rfl, hb7⟩
    have hb17 := Bt hb15 hb7
    clear hb15 hb7 hU5
    go_wp2_with fail
    go_ret
    exact ⟨rfl, hb17⟩

theorem walkGlobQuotes (s o : ByteArray) (w : World) (hU : Utf8Laid w) (_ : s.size ≤ maxLen) (_ : o.size ≤ maxLen) : Calls Tryd.prog 5 #[.string s, .string o] w fun e w' => e = .returned (.bool true) ∧ Below w.heap.size w w' := by
  by_cases h : s.size ≤ 400 ∧ o.size ≤ 400
  · exact quotes_walk s o w hU h.1 h.2
  · exact quotes_long s o w hU (by omega)
end Go.Proofs.YtlnnimmiifdnnaaDoor
