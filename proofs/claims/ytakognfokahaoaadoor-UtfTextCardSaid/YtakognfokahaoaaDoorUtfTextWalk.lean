/- The walk of UtfText. -/
import Derived.Test.YtakognfokahaoaaDoorSpeaks01
import Derived.Test.YtakognfokahaoaaDoorRefText
import Derived.Test.YtakognfokahaoaaDoorOwnConv
namespace Go.Proofs.YtakognfokahaoaaDoor
open Go.RowKit

theorem nats_val : ∀ (l : List Int), rightLen l = l.length → ∀ j, j < l.length → ((nats l).map intV)[j]? = some (.int .i64 (l.getD j 0)) := by
  intro l
  induction l with
  | nil => intro _ j hj; simp at hj
  | cons d l ih =>
    intro h j hj
    unfold rightLen at h
    split at h
    · rename_i hd
      have hz := (rightB_iff d).1 hd
      unfold rightZ at hz
      cases j with
      | zero => simp [nats, intV]; omega
      | succ j => simpa [nats] using ih (by simpa using h) j (by simpa using hj)
    · simp at h

set_option maxHeartbeats 800000 in
theorem utfText_long (pa : Option Addr) (la ca : Nat) (h : 2000 < la) (w : World) (hg : Handle w) (hU : Utf8Laid w) :
    Calls Tryd.prog 9 #[.slice pa la ca] w fun e w' => e = .returned (.bool true) ∧ Below w.heap.size w w' := by
  go_enter Tryd.func9, Tryd.ntmps9
  go_wp2_with fail
  refine (speaks01 _ hg hU).mono ?_
  rintro e w1 ⟨rfl, hb1⟩
  go_wp2_with fail
  go_ret
  exact ⟨rfl, hb1⟩

set_option maxHeartbeats 1600000 in
theorem utfText_walk (x : Value) (l : List Int) (la ca : Nat) (pa : Option Addr) (e0 : x = .slice pa la ca) (h0 : l.length = la) (hl : la ≤ 2000) (w : World) (hg : Handle w) (hU : Utf8Laid w) (hx : IntsSl w x l) :
    Calls Tryd.prog 9 #[x] w fun e w' => e = .returned (.bool true) ∧ Below w.heap.size w w' := by
  subst e0
  subst h0
  go_enter Tryd.func9, Tryd.ntmps9
  go_wp2_with fail
  refine (speaks01 _ hg hU).mono ?_
  rintro e w1 ⟨rfl, hb1⟩
  have hg := hg.below hb1
  have hU := hU.below hb1
  have hx := hx.below hb1
  go_wp2_with fail
  refine (utf_Text _ l _ (by omega) hx).mono ?_
  rintro e w2 ⟨hb2, hA⟩
  have hg := hg.below hb2
  have hU := hU.below hb2
  have hx := hx.below hb2
  have hb1 := Bt hb1 hb2
  clear hb2
  rcases hA with ⟨hr, v, rfl, hv⟩ | ⟨hr, v, rfl, hv⟩
  · obtain ⟨pv, cv, rfl⟩ := row_len hv
    have hall := right_all l hr
    have hch := chrs_put (nats l) hall
    have hle := (putAll_len (nats l)).2
    rw [nats_len] at hle
    clear hall
    go_wp2_with fail
    refine (ref_Text _ l _ (by omega) hx).mono ?_
    rintro e w3 ⟨hb2, hB⟩
    have hg := hg.below hb2
    have hU := hU.below hb2
    have hx := hx.below hb2
    have hv := hv.below hb2
    have hb1 := Bt hb1 hb2
    clear hb2
    rcases hB with ⟨_, u, rfl, hu⟩ | ⟨h, _⟩
    · obtain ⟨pu, cu, rfl⟩ := row_len hu
      have c1 := hv.conv
      have c2 := hu.conv
      have hsz : (⟨(putAll (nats l)).toArray⟩ : ByteArray).size = (putAll (nats l)).length := by show (putAll (nats l)).toArray.size = _; simp
      have hvs := hv.sl
      clear hv hu
      generalize (⟨(putAll (nats l)).toArray⟩ : ByteArray) = S at *
      generalize (putAll (nats l)).length = len at *
      go_wp2_with fail
      refine (utf_Chars _ S _ hU (by omega) hvs).mono ?_
      rintro e w4 ⟨hb2, hC⟩
      have hx := hx.below hb2
      have hb1 := Bt hb1 hb2
      clear hb2 c1 c2 hvs
      rw [hch] at hC
      rcases hC with ⟨_, u3, rfl, hu3⟩ | ⟨i, h, _⟩
      · obtain ⟨pu3, cu3, rfl⟩ := row_len hu3
        simp only [nats_len] at hu3
        rw [nats_len]
        by_cases hz : 0 < l.length
        · obtain ⟨g, cap3, e3, _, _⟩ := ownsRow_form hu3 hz
          cases e3
          rcases hx with ⟨rfl, _⟩ | ⟨b, off, cap, e, h1, h2, hbs, hp⟩
          · simp at hz
          · cases e
            unfold maxLen at h2
            have hcell := fun j (hj : j < l.length) => hu3.cellAt j (by omega)
            have hval : ∀ j, j < l.length → ((nats l).map intV)[j]? = some (.int .i64 (l.getD j 0)) := fun j hj => nats_val l hr j hj
            have HV := Lib.hid hval
            have HC := Lib.hid hcell
            clear hu3 hval hcell hr
            go_wp2_with fail
            go_loopw [66] (fun a wr => ∃ i q : Nat, i ≤ l.length ∧ a = .int .i64 i ∧ w4.drewN q = wr) (fun a _ => l.length - (intOf a).toNat)
            case atStart => exact ⟨0, 0, Nat.zero_le _, rfl, rfl⟩
            case round =>
              obtain ⟨i, q, hil, rfl, hw⟩ := hrel
              have hb2 : Below w.heap.size w wr := by rw [← hw]; exact below_drewN hb1 q
              have HW := Lib.hid hw
              by_cases hlt : i < l.length
              · have k1 : wr.cell? ⟨b, off + i, none⟩ = some (.int .i64 (l.getD i 0)) := by rw [← hw]; exact hp i hlt
                have k2 : wr.cell? ⟨g, i, none⟩ = some (.int .i64 (l.getD i 0)) := by rw [← hw]; exact (HC.out i hlt).trans (HV.out i hlt)
                clear hw
                generalize l.getD i 0 = c at *
                go_wp2_with fail
                go_quiet (fail)
                go_wp2_with fail
                go_roundw
                case rel => exact ⟨i + 1, _, by omega, by go_num, by rw [← HW.out, World.drewN_drewN]⟩
                case measure => simp [intOf]; omega
              · obtain rfl : i = l.length := by omega
                clear hw
                go_wp2_with fail
                go_ret
                exact ⟨rfl, hb2⟩
        · have hz : l.length = 0 := by omega
          rw [hz]
          go_wp2_with fail
          refine wp_loop_rounds 1 ?_
          rw [rounds_succ]
          go_wp2_with fail
          go_ret
          exact ⟨rfl, hb1⟩
      · cases h
    · omega
  · obtain ⟨p, rfl⟩ := hv.ne_nil
    go_wp2_with fail
    refine (ref_Text _ l _ (by omega) hx).mono ?_
    rintro e w3 ⟨hb2, hB⟩
    have hg := hg.below hb2
    have hv := FaultIs.below hv hb2
    have hb1 := Bt hb1 hb2
    clear hb2
    rcases hB with ⟨h, _⟩ | ⟨_, a, rfl⟩
    · omega
    · generalize rightLen l = i at *
      go_wp2_with fail
      refine (fault_Kind_is _ _ _ _ _ hg hv).mono ?_
      rintro e w4 ⟨rfl, hb⟩
      have hg := hg.below hb
      have hv := FaultIs.below hv hb
      have hb1 := Bt hb1 hb
      clear hb
      go_wp2_with fail
      refine (fault_At_is _ _ _ _ _ hg hv).mono ?_
      rintro e w4 ⟨rfl, hb⟩
      have hb1 := Bt hb1 hb
      clear hb
      go_wp2_with fail
      go_ret
      exact ⟨by simp, hb1⟩

theorem walkUtfText (pa : Option Addr) (la ca : Nat) (za : List Int) (w : World) (hg : Handle w) (hU : Utf8Laid w) (ra : IsRow .i64 w pa la ca za) :
    Calls Tryd.prog 9 #[.slice pa la ca] w fun e w' => e = .returned (.bool true) ∧ Below w.heap.size w w' := by
  by_cases hl : la ≤ 2000
  · obtain ⟨l, h0, hx, _⟩ := ra.ints
    exact utfText_walk _ l la ca pa rfl h0 hl w hg hU hx
  · exact utfText_long pa la ca (by omega) w hg hU
end Go.Proofs.YtakognfokahaoaaDoor
