/- The walk of UtfChars. -/
import Derived.Test.YtakognfokahaoaaDoorSpeaks01
import Derived.Test.YtakognfokahaoaaDoorRefText
import Derived.Test.YtakognfokahaoaaDoorOwnConv
import Derived.Test.YtakognfokahaoaaDoorFill
import Derived.Test.YtakognfokahaoaaDoorUtfJoinPlain
namespace Go.Proofs.YtakognfokahaoaaDoor
open Go.RowKit

/-- Characters as the code's ints. -/
def ints (l : List Nat) : List Int := l.map fun c : Nat => (c : Int)
theorem ints_len (l : List Nat) : (ints l).length = l.length := by simp [ints]
theorem nats_ints (l : List Nat) : nats (ints l) = l := by
  unfold nats ints
  rw [List.map_map]
  conv => rhs; rw [← List.map_id l]
  exact List.map_congr_left fun x _ => by simp
theorem ints_right : ∀ (l : List Nat), (∀ c ∈ l, rightC c) → rightLen (ints l) = (ints l).length := by
  intro l
  induction l with
  | nil => intro _; rfl
  | cons c l ih =>
    intro h
    show (if rightB (c : Int) = true then rightLen (ints l) + 1 else 0) = (ints l).length + 1
    rw [if_pos ((rightC_iff c).1 (h c (by simp))), ih fun d hd => h d (by simp [hd])]
theorem row_ints {w : World} {base c : Nat} {p : Option Addr} {l : List Nat} (h : w.ownsRow base 3 1 (.slice p l.length c) l.length (l.map intV)) : IntsSl w (.slice p l.length c) (ints l) := by
  by_cases h0 : 0 < l.length
  · obtain ⟨g, rfl, _, h1, h2⟩ := row_cell h h0
    refine .inr ⟨g, 0, c, by rw [ints_len], by rw [ints_len]; exact h1, h2, (World.ownsRow.lt h g rfl).2, fun j hj => ?_⟩
    rw [ints_len] at hj
    obtain ⟨g', e, k, _⟩ := row_cell h hj
    cases e
    rw [Nat.zero_add, k]
    simp [ints, intV, hj]
  · exact .inl ⟨by rw [List.eq_nil_of_length_eq_zero (by omega : l.length = 0)]; rfl, p, c, by rw [show l.length = 0 by omega]⟩

set_option maxHeartbeats 800000 in
theorem utfChars_long (pa : Option Addr) (la ca : Nat) (h : 5000 < la) (w : World) (hg : Handle w) (hU : Utf8Laid w) :
    Calls Tryd.prog 8 #[.slice pa la ca] w fun e w' => e = .returned (.bool true) ∧ Below w.heap.size w w' := by
  go_enter Tryd.func8, Tryd.ntmps8
  go_wp2_with fail
  refine (speaks01 _ hg hU).mono ?_
  rintro e w1 ⟨rfl, hb1⟩
  go_wp2_with fail
  go_ret
  exact ⟨rfl, hb1⟩

set_option maxHeartbeats 1600000 in
set_option maxRecDepth 100000 in
theorem utfChars_walk (x : Value) (s : ByteArray) (la ca : Nat) (pa : Option Addr) (e0 : x = .slice pa la ca) (h0 : s.size = la) (hl : la ≤ 5000) (w : World) (hg : Handle w) (hU : Utf8Laid w) (hx : BytesSl w x s) :
    Calls Tryd.prog 8 #[x] w fun e w' => e = .returned (.bool true) ∧ Below w.heap.size w w' := by
  subst e0
  subst h0
  have hg0 := hg
  have hx0 := hx
  go_enter Tryd.func8, Tryd.ntmps8
  go_wp2_with fail
  refine (speaks01 _ hg hU).mono ?_
  rintro e w1 ⟨rfl, hb1⟩
  have hbase := hb1.size
  have hg := hg.below hb1
  have hU := hU.below hb1
  have hx := hx.below hb1
  have hbf : Below w1.heap.size w1 (w1.alloc (.cells #[] 5)) := (Below.refl _ _).alloc (Nat.le_refl _) _
  have hown0 := OwnB.lit (base := w1.heap.size) w1 [] #[] 0 rfl rfl (Nat.le_refl _) (by simp)
  have hx1 := hx.below hbf
  go_wp2_with (at_builtin; refine wpList_app_bytes rfl _ _ rfl w1.heap.size _ [] rfl hown0 _ s rfl hx1 (by simp; omega) (by simp) ?_)
  intro v2 w2 hown2 hg2
  have hb12 := hown0.under hbf (Nat.le_refl _) hg2
  have hg := hg.below hb12
  have hU := hU.below hb12
  have hx := hx.below hb12
  have hb1 := Bt hb1 hb12
  clear hg2 hown0 hx1 hbf hb12
  have hin := hown2.sl
  obtain ⟨pi, ci, rfl⟩ := row_len hown2
  have hsl : s.data.toList.length = s.size := rfl
  have hlt2 : ∀ g, (Value.slice pi s.data.toList.length ci).ownBlock = some g → g < w2.heap.size := fun g e => (World.ownsRow.lt hown2 g e).2
  rw [hsl] at hlt2
  rw [hsl]
  rw [hsl] at hin
  have hown : OwnB w2 w1.heap.size (.slice pi s.size ci) s.data.toList := by rw [← hsl]; exact hown2
  clear hown2
  go_wp2_with fail
  refine (utf_Chars _ s _ hU (by omega) hin).mono ?_
  rintro e w3 ⟨hb23, hA⟩
  have hg := hg.below hb23
  have hU := hU.below hb23
  have hx := hx.below hb23
  have hin := hin.below hb23
  have hown := hown.below hb23
  have hb1 := Bt hb1 hb23
  rcases hA with ⟨hc, u, rfl, hu⟩ | ⟨k, hc, u, rfl, hu⟩
  · obtain ⟨pu, cu, rfl⟩ := row_len hu
    go_wp2_with fail
    refine (utf_Valid _ s _ hU (by omega) hin).mono ?_
    rintro e w4 ⟨hb34, hB⟩
    have hg := hg.below hb34
    have hx := hx.below hb34
    have hown := hown.below hb34
    have hu := ownsRow_below hu hb34
    have hb1 := Bt hb1 hb34
    rcases hB with ⟨_, rfl⟩ | ⟨k, h, _⟩
    · go_wp2_with fail
      go_loopw [30] (fun a wr => ∃ i : Nat, i ≤ s.size ∧ a = .int .i64 i ∧ FillRel w4 pi s.size ci wr) (fun a _ => s.size - (intOf a).toNat)
      case atStart => exact ⟨0, Nat.zero_le _, rfl, FillRel.start hown hsl⟩
      case round =>
        obtain ⟨i, hil, rfl, hf⟩ := hrel
        by_cases hlt : i < s.size
        · obtain ⟨g, rfl, ⟨u0, hc0⟩, hfz, hset⟩ := hf.cell hlt
          have HSET := Lib.hid hset
          clear hset hf
          go_wp2_with fail
          go_roundw
          case rel => exact ⟨i + 1, by omega, by go_num, HSET.out _⟩
          case measure => simp [intOf]; omega
        · obtain rfl : i = s.size := by omega
          have hgr := hf.1
          have hb5 := hown.under hb1 hbase hgr
          clear hf
          have hg := hg0.below hb5
          have hx := hx0.below hb5
          have hu := row_fill hu (fun g e => hlt2 g e) hgr
          clear hgr
          go_wp2_with fail
          refine (ref_Chars _ s _ (by omega) hx).mono ?_
          rintro e w6 ⟨hb56, hC⟩
          have hx := hx.below hb56
          have hu := ownsRow_below hu hb56
          have hb6 := Bt hb5 hb56
          rcases hC with ⟨_, u7, rfl, hu7⟩ | ⟨k, h, _⟩
          · obtain ⟨pu7, cu7, rfl⟩ := row_len hu7
            go_wp2_with fail
            generalize hl1 : (chrs s).1 = l at *
            have hll : l.length ≤ s.size := by rw [← hl1]; exact chrs_len s
            have hput : putAll l = s.data.toList := by rw [← hl1]; exact put_chrs s hc
            have hrt : ∀ c ∈ l, rightC c := by rw [← hl1]; exact right_chrs s
            have HPUT := Lib.hid hput
            have HRT := Lib.hid hrt
            clear hput hrt hl1 hc
            go_loopw [84] (fun a wr => ∃ i q : Nat, i ≤ l.length ∧ a = .int .i64 i ∧ w6.drewN q = wr) (fun a _ => l.length - (intOf a).toNat)
            case atStart => exact ⟨0, 0, Nat.zero_le _, rfl, rfl⟩
            case round =>
              obtain ⟨i, q, hil, rfl, hw⟩ := hrel
              have hb7 : Below w.heap.size w wr := by rw [← hw]; exact below_drewN hb6 q
              have HW := Lib.hid hw
              by_cases hlt : i < l.length
              · obtain ⟨g1, rfl, k1, _, _⟩ := row_cell hu hlt
                obtain ⟨g2, rfl, k2, _, _⟩ := row_cell hu7 hlt
                rw [List.getElem?_map, List.getElem?_eq_getElem hlt] at k1 k2
                have k1 : wr.cell? ⟨g1, i, none⟩ = some (.int .i64 ((l[i]'hlt : Nat) : Int)) := by rw [← hw]; exact k1
                have k2 : wr.cell? ⟨g2, i, none⟩ = some (.int .i64 ((l[i]'hlt : Nat) : Int)) := by rw [← hw]; exact k2
                generalize l[i]'hlt = c at *
                clear hw
                go_wp2_with fail
                go_quiet (fail)
                go_wp2_with fail
                go_roundw
                case rel => exact ⟨i + 1, _, by omega, by go_num, by rw [← HW.out, World.drewN_drewN]⟩
                case measure => simp [intOf]; omega
              · obtain rfl : i = l.length := by omega
                have hx := hx.drewN q
                have hui : IntsSl wr (.slice pu l.length cu) (ints l) := by rw [← hw]; exact row_ints hu
                have hx8 : BytesSl wr (.slice pa s.size ca) s := by rw [← hw]; exact hx
                clear hw hx
                go_wp2_with fail
                refine (utf_Text _ (ints l) _ (by rw [ints_len]; omega) hui).mono ?_
                rintro e w8 ⟨hb78, hD⟩
                have hx := hx8.below hb78
                have hb8 := Bt hb7 hb78
                rcases hD with ⟨_, v8, rfl, hv8⟩ | ⟨h, _⟩
                · rw [nats_ints, HPUT.out] at hv8
                  obtain ⟨pv8, cv8, rfl⟩ := row_len hv8
                  have c8 := hv8.conv
                  have cx := hx.conv
                  rw [hsl] at c8
                  rw [hsl]
                  rw [show (⟨s.data.toList.toArray⟩ : ByteArray) = s from rfl] at c8
                  clear hv8 hx
                  go_wp2_with fail
                  go_ret
                  exact ⟨rfl, hb8⟩
                · rw [ints_right l HRT.out] at h; omega
          · rw [hc] at h; cases h
    · rw [hc] at h; cases h
  · obtain ⟨p1, rfl⟩ := hu.ne_nil
    go_wp2_with fail
    refine (utf_Valid _ s _ hU (by omega) hin).mono ?_
    rintro e w4 ⟨hb34, hB⟩
    have hg := hg.below hb34
    have hx := hx.below hb34
    have hown := hown.below hb34
    have hu := FaultIs.below hu hb34
    have hb1 := Bt hb1 hb34
    rcases hB with ⟨h, _⟩ | ⟨k2, h, u2, rfl, hu2⟩
    · rw [hc] at h; cases h
    · obtain rfl : k = k2 := by rw [hc] at h; cases h; rfl
      obtain ⟨p2, rfl⟩ := hu2.ne_nil
      clear h
      go_wp2_with fail
      go_loopw [30] (fun a wr => ∃ i : Nat, i ≤ s.size ∧ a = .int .i64 i ∧ FillRel w4 pi s.size ci wr) (fun a _ => s.size - (intOf a).toNat)
      case atStart => exact ⟨0, Nat.zero_le _, rfl, FillRel.start hown hsl⟩
      case round =>
        obtain ⟨i, hil, rfl, hf⟩ := hrel
        by_cases hlt : i < s.size
        · obtain ⟨g, rfl, ⟨u0, hc0⟩, hfz, hset⟩ := hf.cell hlt
          have HSET := Lib.hid hset
          clear hset hf
          go_wp2_with fail
          go_roundw
          case rel => exact ⟨i + 1, by omega, by go_num, HSET.out _⟩
          case measure => simp [intOf]; omega
        · obtain rfl : i = s.size := by omega
          have hgr := hf.1
          have hb5 := hown.under hb1 hbase hgr
          clear hf
          have hg := hg0.below hb5
          have hx := hx0.below hb5
          have hu := FaultIs.fill' hu hown hgr
          have hu2 := FaultIs.fill' hu2 hown hgr
          clear hgr
          go_wp2_with fail
          refine (ref_Chars _ s _ (by omega) hx).mono ?_
          rintro e w6 ⟨hb56, hC⟩
          have hg := hg.below hb56
          have hu := FaultIs.below hu hb56
          have hu2 := FaultIs.below hu2 hb56
          have hb6 := Bt hb5 hb56
          rcases hC with ⟨h, _⟩ | ⟨k2, h, a7, rfl⟩
          · rw [hc] at h; cases h
          · obtain rfl : k = k2 := by rw [hc] at h; cases h; rfl
            clear h
            go_wp2_with fail
            refine (fault_Kind_is _ _ _ _ _ hg hu).mono ?_
            rintro e w7 ⟨rfl, hb⟩
            have hg := hg.below hb
            have hu := FaultIs.below hu hb
            have hu2 := FaultIs.below hu2 hb
            have hb6 := Bt hb6 hb
            clear hb
            go_wp2_with fail
            refine (fault_At_is _ _ _ _ _ hg hu).mono ?_
            rintro e w7 ⟨rfl, hb⟩
            have hg := hg.below hb
            have hu2 := FaultIs.below hu2 hb
            have hb6 := Bt hb6 hb
            clear hb
            go_wp2_with fail
            refine (fault_Kind_is _ _ _ _ _ hg hu2).mono ?_
            rintro e w7 ⟨rfl, hb⟩
            have hg := hg.below hb
            have hu2 := FaultIs.below hu2 hb
            have hb6 := Bt hb6 hb
            clear hb
            go_wp2_with fail
            refine (fault_At_is _ _ _ _ _ hg hu2).mono ?_
            rintro e w7 ⟨rfl, hb⟩
            have hb6 := Bt hb6 hb
            clear hb
            go_wp2_with fail
            go_ret
            exact ⟨by simp, hb6⟩

theorem walkUtfChars (pa : Option Addr) (la ca : Nat) (za : List Int) (w : World) (hg : Handle w) (hU : Utf8Laid w) (ra : IsRow .u8 w pa la ca za) :
    Calls Tryd.prog 8 #[.slice pa la ca] w fun e w' => e = .returned (.bool true) ∧ Below w.heap.size w w' := by
  by_cases hl : la ≤ 5000
  · obtain ⟨s, h0, hx⟩ := ra.bytes
    exact utfChars_walk _ s la ca pa rfl h0 hl w hg hU hx
  · exact utfChars_long pa la ca (by omega) w hg hU
end Go.Proofs.YtakognfokahaoaaDoor
