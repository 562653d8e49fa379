/- The walk of UtfJoined. -/
import Derived.Test.YtakognfokahaoaaDoorSpeaks01
import Derived.Test.YtakognfokahaoaaDoorUtfJoinPlain
import Derived.Test.YtakognfokahaoaaDoorRowed
namespace Go.Proofs.YtakognfokahaoaaDoor
open Go.RowKit

theorem row_len {w : World} {base : Nat} {e : TypeId} {size : Nat} {v : Value} {n : Nat} {xs : List Value} (h : w.ownsRow base e size v n xs) : ∃ a cap, v = .slice a n cap := by
  rcases h.2 with ⟨h0, h1⟩ | ⟨g, cap, cur, rfl, _⟩
  · exact ⟨none, 0, by rw [h0, h1]⟩
  · exact ⟨_, _, rfl⟩
theorem chars_len {s : ByteArray} {w : World} {base : Nat} {v : Value} (h : w.ownsRow base 3 1 v (chrs s).1.length ((chrs s).1.map intV)) : ∃ a cap, v = .slice a (chrs s).1.length cap := by
  rcases h.2 with ⟨h0, h1⟩ | ⟨g, cap, cur, rfl, _⟩
  · exact ⟨none, 0, by rw [h0, h1]⟩
  · exact ⟨_, _, rfl⟩
theorem chrs_len (s : ByteArray) : (chrs s).1.length ≤ s.size := by
  have : ∀ f i, i ≤ s.size → (chrsFrom s f i).1.length ≤ s.size - i := by
    intro f
    induction f with
    | zero => intro i _; simp [chrsFrom]
    | succ f ih =>
      intro i hi
      unfold chrsFrom
      split
      · split
        · have hd := decB_bounds s i (by assumption)
          have := ih (i + (decB s i).2) (by omega)
          simp only [List.length_cons]; omega
        · simp
      · simp
  simpa [chrs] using this s.size 0 (by omega)
theorem chrs_bad (s : ByteArray) (i : Nat) (h : (chrs s).2 = some i) : i < s.size := by
  have : ∀ f j, (chrsFrom s f j).2 = some i → i < s.size := by
    intro f
    induction f with
    | zero => intro j h; simp [chrsFrom] at h
    | succ f ih =>
      intro j h
      unfold chrsFrom at h
      split at h
      · split at h
        · exact ih _ h
        · simp at h; omega
      · simp at h
  exact this _ _ h
theorem toArray_app (a b : ByteArray) : (⟨(a.data.toList ++ b.data.toList).toArray⟩ : ByteArray) = a ++ b := by
  apply ByteArray.ext
  rw [ByteArray.data_append]
  simp

theorem OwnB.under {w0 w w' : World} {base : Nat} {v : Value} {l : List UInt8} (h : OwnB w base v l) (hb : Below w0.heap.size w0 w) (hB : w0.heap.size ≤ base) (hg : w.grownBy w' v.ownBlock) : Below w0.heap.size w0 w' :=
  hb.grown hg hb.size (fun j hj => Nat.le_trans hB (World.ownsRow.lt h j hj).1)

set_option maxHeartbeats 1600000 in
theorem utfJoined_walk (x y : Value) (a b : ByteArray) (la lb ca cb : Nat) (pa pb : Option Addr) (ea : x = .slice pa la ca) (eb : y = .slice pb lb cb) (ha : a.size = la) (hb : b.size = lb) (la1 : la ≤ 1000) (lb1 : lb ≤ 1000) (w : World) (hg : Handle w) (hU : Utf8Laid w) (hx : BytesSl w x a) (hy : BytesSl w y b) :
    Calls Tryd.prog 4 #[x, y] w fun e w' => e = .returned (.bool true) ∧ Below w.heap.size w w' := by
  subst ea eb
  subst ha hb
  go_enter Tryd.func4, Tryd.ntmps4
  go_wp2_with fail
  refine (speaks01 _ hg hU).mono ?_
  rintro e w1 ⟨rfl, hb1⟩
  have hg := hg.below hb1
  have hU := hU.below hb1
  have hx := hx.below hb1
  have hy := hy.below hb1
  go_wp2_with fail
  refine (utf_Chars _ a _ hU (by omega) hx).mono ?_
  rintro e w2 ⟨hb2, hA⟩
  have hg := hg.below hb2
  have hU := hU.below hb2
  have hx := hx.below hb2
  have hy := hy.below hb2
  have hb1 := Bt hb1 hb2
  clear hb2
  rcases hA with ⟨hAn, u, rfl, hu⟩ | ⟨i, hAi, u, rfl, hu⟩
  · obtain ⟨pu, cu, rfl⟩ := chars_len hu
    clear hu
    have hja := chrs_join a b hAn
    clear hAn
    have hla := chrs_len a
    generalize (chrs a).1 = l1 at *
    go_wp2_with fail
    refine (utf_Chars _ b _ hU (by omega) hy).mono ?_
    rintro e w3 ⟨hb2, hB⟩
    have hg := hg.below hb2
    have hU := hU.below hb2
    have hx := hx.below hb2
    have hy := hy.below hb2
    have hb1 := Bt hb1 hb2
    clear hb2
    have hlb := chrs_len b
    have hbd := chrs_bad b
    have hbe : Below w.heap.size w (w3.alloc (.cells #[] 5)) := hb1.alloc hb1.size _
    have hbf : Below w3.heap.size w3 (w3.alloc (.cells #[] 5)) := (Below.refl _ _).alloc (Nat.le_refl _) _
    have hown0 := OwnB.lit (base := w3.heap.size) w3 [] #[] 0 rfl rfl (Nat.le_refl _) (by simp)
    have hx' := hx.below hbf
    generalize hcb : chrs b = cb2 at *
    obtain ⟨l2, o2⟩ := cb2
    simp only at hlb hja hB hbd
    clear hcb
    rcases hB with ⟨rfl, u2, rfl, hu2⟩ | ⟨i, rfl, u2, rfl, hu2⟩
    all_goals try (obtain ⟨p2, rfl⟩ := hu2.ne_nil; have hbd := hbd _ rfl)
    all_goals try (obtain ⟨pu2, cu2, rfl⟩ := row_len hu2)
    all_goals
      go_wp2_with (at_builtin; refine wpList_app_bytes rfl _ _ rfl w3.heap.size _ [] rfl hown0 _ a rfl hx' (by simp; omega) (by simp) ?_)
      intro v4 w4 hown4 hg4
      have hb34 := hown0.under hbf (Nat.le_refl _) hg4
      clear hg4 hown0 hx' hbf hbe hx
      have hy := hy.below hb34
      go_wp2_with (at_builtin; refine wpList_app_bytes rfl _ _ rfl w3.heap.size _ _ rfl hown4 _ b rfl hy (by simp; omega) hb34.size ?_)
      intro v5 w5 hown5 hg5
      have hb35 := hown4.under hb34 (Nat.le_refl _) hg5
      have hg := hg.below hb35
      have hU := hU.below hb35
      have hb1 := Bt hb1 hb35
      clear hg5 hown4 hb34 hy
      have hz := hown5.sl
      rw [toArray_app] at hz
      clear hown5
    · clear hu2
      go_wp2_with fail
      refine (utf_Chars _ (a ++ b) _ hU (by rw [size_app]; omega) hz).mono ?_
      rintro e w6 ⟨hb2, hC⟩
      have hb1 := Bt hb1 hb2
      clear hb2
      rcases hC with ⟨_, u3, rfl, hu3⟩ | ⟨i, h, _⟩
      · obtain ⟨pu3, cu3, rfl⟩ := chars_len hu3
        clear hu3
        rw [hja]
        have e1 : (l1 ++ l2).length = l1.length + l2.length := List.length_append
        rw [e1]
        go_wp2_with fail
        go_ret
        exact ⟨by simp, hb1⟩
      · rw [hja] at h
        simp at h
    · have hu2 := FaultIs.below hu2 hb35
      go_wp2_with fail
      refine (utf_Chars _ (a ++ b) _ hU (by rw [size_app]; omega) hz).mono ?_
      rintro e w6 ⟨hb2, hC⟩
      have hb1 := Bt hb1 hb2
      have hg := hg.below hb2
      have hu2 := FaultIs.below hu2 hb2
      clear hb2
      rcases hC with ⟨h, _⟩ | ⟨j, hj, u3, rfl, hu3⟩
      · rw [hja] at h
        simp at h
      · rw [hja] at hj
        obtain rfl : a.size + i = j := by simpa using hj
        clear hj
        have hq1 : ((a.size + i : Nat) : Int) = (a.size : Int) + (i : Int) := by omega
        rw [hq1] at hu3
        go_wp2_with fail
        refine (fault_Has _ _ _ _ _ hu3).mono ?_
        rintro e w7 ⟨rfl, rfl⟩
        have e1 : isKind 12 12 = true := rfl
        go_wp2_with fail
        refine (fault_At_is _ _ _ _ _ hg hu3).mono ?_
        rintro e w7 ⟨rfl, hb⟩
        have hb1 := Bt hb1 hb
        have hg := hg.below hb
        have hu2 := FaultIs.below hu2 hb
        clear hb
        go_wp2_with fail
        refine (fault_At_is _ _ _ _ _ hg hu2).mono ?_
        rintro e w7 ⟨rfl, hb⟩
        have hb1 := Bt hb1 hb
        clear hb
        go_wp2_with fail
        go_ret
        exact ⟨by simp, hb1⟩
  · obtain ⟨p, rfl⟩ := hu.ne_nil
    clear hAi
    go_wp2_with fail
    refine (utf_Chars _ b _ hU (by omega) hy).mono ?_
    rintro e w3 ⟨hb2, hB⟩
    have hg := hg.below hb2
    have hU := hU.below hb2
    have hx := hx.below hb2
    have hy := hy.below hb2
    have hb1 := Bt hb1 hb2
    clear hb2
    have hbe : Below w.heap.size w (w3.alloc (.cells #[] 5)) := hb1.alloc hb1.size _
    have hbf : Below w3.heap.size w3 (w3.alloc (.cells #[] 5)) := (Below.refl _ _).alloc (Nat.le_refl _) _
    have hown0 := OwnB.lit (base := w3.heap.size) w3 [] #[] 0 rfl rfl (Nat.le_refl _) (by simp)
    have hx' := hx.below hbf
    rcases hB with ⟨_, u2, rfl, hu2⟩ | ⟨i, _, u2, rfl, hu2⟩
    all_goals try (obtain ⟨p2, rfl⟩ := hu2.ne_nil)
    all_goals try (obtain ⟨pu2, cu2, rfl⟩ := row_len hu2)
    all_goals
      clear hu2
      go_wp2_with (at_builtin; refine wpList_app_bytes rfl _ _ rfl w3.heap.size _ [] rfl hown0 _ a rfl hx' (by simp; omega) (by simp) ?_)
      intro v4 w4 hown4 hg4
      have hb34 := hown0.under hbf (Nat.le_refl _) hg4
      clear hg4 hown0 hx' hbf hbe hx
      have hy := hy.below hb34
      go_wp2_with (at_builtin; refine wpList_app_bytes rfl _ _ rfl w3.heap.size _ _ rfl hown4 _ b rfl hy (by simp; omega) hb34.size ?_)
      intro v5 w5 hown5 hg5
      have hb35 := hown4.under hb34 (Nat.le_refl _) hg5
      have hU := hU.below hb35
      have hb1 := Bt hb1 hb35
      clear hg5 hown4 hb34 hy
      have hz := hown5.sl
      rw [toArray_app] at hz
      clear hown5
      go_wp2_with fail
      refine (utf_Chars _ (a ++ b) _ hU (by rw [size_app]; omega) hz).mono ?_
      rintro e w6 ⟨hb2, hC⟩
      have hb1 := Bt hb1 hb2
      clear hb2
      rcases hC with ⟨_, u3, rfl, hu3⟩ | ⟨j, _, u3, rfl, hu3⟩
      · obtain ⟨pu3, cu3, rfl⟩ := row_len hu3
        go_wp2_with fail
        go_ret
        exact ⟨rfl, hb1⟩
      · obtain ⟨p3, rfl⟩ := hu3.ne_nil
        go_wp2_with fail
        go_ret
        exact ⟨rfl, hb1⟩

set_option maxHeartbeats 800000 in
theorem utfJoined_long (pa pb : Option Addr) (la lb ca cb : Nat) (h : 1000 < la ∨ (la ≤ 1000 ∧ 1000 < lb)) (w : World) (hg : Handle w) (hU : Utf8Laid w) :
    Calls Tryd.prog 4 #[.slice pa la ca, .slice pb lb cb] w fun e w' => e = .returned (.bool true) ∧ Below w.heap.size w w' := by
  rcases h with h | ⟨h, h'⟩
  all_goals
    go_enter Tryd.func4, Tryd.ntmps4
    go_wp2_with fail
    refine (speaks01 _ hg hU).mono ?_
    rintro e w1 ⟨rfl, hb1⟩
    go_wp2_with fail
    go_ret
    exact ⟨rfl, hb1⟩

theorem walkUtfJoined (pa : Option Addr) (la ca : Nat) (za : List Int) (pb : Option Addr) (lb cb : Nat) (zb : List Int) (w : World) (hg : Handle w) (hU : Utf8Laid w) (ra : IsRow .u8 w pa la ca za) (rb : IsRow .u8 w pb lb cb zb) :
    Calls Tryd.prog 4 #[.slice pa la ca, .slice pb lb cb] w fun e w' => e = .returned (.bool true) ∧ Below w.heap.size w w' := by
  obtain ⟨a, ha, hx⟩ := ra.bytes
  obtain ⟨b, hb, hy⟩ := rb.bytes
  by_cases h : la ≤ 1000 ∧ lb ≤ 1000
  · exact utfJoined_walk _ _ a b la lb ca cb pa pb rfl rfl ha hb h.1 h.2 w hg hU hx hy
  · exact utfJoined_long pa pb la lb ca cb (by omega) w hg hU
end Go.Proofs.YtakognfokahaoaaDoor
