/- The reference's Items of chapter 16; both, in one form. -/
import Derived.Test.YtiaafljbddamhaaDoorQueryReadsM12
import Derived.Test.YtiaafljbddamhaaDoorQueryReadsM2

namespace Go.Proofs.YtiaafljbddamhaaDoor
open Go.RowKit

theorem OwnI.lit0 (w : World) (base : Nat) (hb : base ≤ w.heap.size) : OwnI (w.alloc (.cells #[] 78)) base (.slice (some ⟨w.heap.size, 0, none⟩) 0 0) [] :=
  World.ownsRow_lit w #[] 0 hb (Nat.zero_le _) rfl
def RItems (s : ByteArray) (w : World) (e : Ending) (w' : World) : Prop := Below w.heap.size w w' ∧ ∃ a c, e = .returned (.tuple #[.slice a (itemsQ s).1.length c, .int .i64 ((itemsQ s).2.1 : Int), .int .i64 ((itemsQ s).2.2 : Int)]) ∧ ItemsOwn w' a (itemsQ s).1
theorem RItems.bad {s : ByteArray} {w w' : World} {k i : Nat} (hb : Below w.heap.size w w') (h : itemsQ s = ([], k, i)) : RItems s w (.returned (.tuple #[.slice none 0 0, .int .i64 (k : Int), .int .i64 (i : Int)])) w' := by
  refine ⟨hb, none, 0, ?_, ?_⟩
  · rw [h]; rfl
  · rw [h]; exact ItemsOwn.nil _ _
theorem itemP_ways (p : ByteArray) : (∃ i, wrongP p = some i ∧ itemP p = .error (11, i)) ∨ wrongP p = none := by
  unfold wrongP itemP
  cases (told (cutN 61 p)).2 with
  | some i => exact .inl ⟨i, rfl, rfl⟩
  | none => cases (told (cutV 61 p)).2 with
    | some i => exact .inl ⟨_, rfl, rfl⟩
    | none => exact .inr rfl
set_option maxHeartbeats 3200000 in
set_option maxRecDepth 100000 in
theorem ref_Items (s : ByteArray) (w : World) (hs : s.size ≤ 100000) : Calls Tryd.prog 35 #[.string s] w (RItems s w) := by
  have cF := Lib.hid (fun W => ref_Fields s 38 1000000 W (by omega) (by omega) (by omega))
  have hsum := parts_sum 38 s
  have hsz := partsB_sizes 38 s
  have hlen := partsB_len 38 s
  have hit : itemsQ s = goG stepQ 256 (partsB 38 s) 0 [] := rfl
  have HIT := Lib.hid hit
  have HSZ := Lib.hid hsz
  have hfs := fields_split s 38
  have hcl := cutAt_le s 38 s.size
  have hpb : partsB 38 s = (splitL 38 s.data.toList).map ofL := rfl
  rw [← hpb] at hfs
  have hpl : (cutAt s 38 s.size).1.length + 1 = (partsB 38 s).length := by rw [← hfs]; simp
  have HBAD := Lib.hid (fun w' k i hb h => @RItems.bad s w w' k i hb h)
  clear hsz hit hpb
  go_enter Tryd.func35, Tryd.ntmps35
  go_wp2_with fail
  refine (cF.out _).mono ?_
  rintro e w1 ⟨hb1, h⟩
  have hbe : Below w.heap.size w (w.alloc (.cells #[] 78)) := (Below.refl _ _).alloc (Nat.le_refl _) _
  have hown0 := (OwnI.lit0 w w.heap.size (Nat.le_refl _)).below hb1
  have hb01 := Bt hbe hb1
  have hw1 : w.heap.size < w1.heap.size := by have := hb1.size; simp at this; omega
  rcases h with ⟨v, rfl, hlt, hrow⟩ | ⟨i, rfl, hi, _, hcnt⟩
  rotate_left
  · exfalso
    have := (cutAt_le s 38 (i + 1)).1
    omega
  · rw [hfs, hpl] at hrow
    have hrow : w1.ownsRow (w.heap.size + 1) 9 1 v (partsB 38 s).length ((partsB 38 s).map strV) := by have := hrow; simp only [World.size_alloc] at this; exact this
    generalize partsB 38 s = ps at *
    obtain ⟨pa, pc, rfl, hpc1, hpc2, hsl⟩ := row_sl (l := ps.map strV) hrow (by simp)
    rw [List.length_map] at hpc1 ⊢
    have hlt1 : ∀ b, pa = some ⟨b, 0, none⟩ → w.heap.size < b ∧ b < w1.heap.size := fun b hb => by
      have := hrow.lt b (by rw [hb]; rfl)
      exact ⟨by omega, this.2⟩
    have hbes : Beside pa (.slice (some ⟨w.heap.size, 0, none⟩) 0 0) := fun b hb e => by
      have := (hlt1 b hb).1
      have e : w.heap.size = b := by injection e
      omega
    have HLT := Lib.hid hlt1
    unfold maxLen at hpc2
    clear hrow hfs hpl hcl hlt hb1 hbe hlt1
    go_wp2_with fail
    go_loopw [5, 9, 10] (fun v a x wr => ∃ (i at_ : Nat) (acc : List It), i ≤ ps.length ∧ x = .int .i64 i ∧ a = .int .i64 at_ ∧ OwnI wr w.heap.size v acc ∧ Below w.heap.size w wr ∧ w1.heap.size ≤ wr.heap.size ∧ RowSl wr pa (ps.map strV) ∧ Beside pa v ∧ acc.length ≤ 256 ∧ at_ + ((ps.drop i).map fun p => p.size + 1).sum = s.size + 1 ∧ itemsQ s = goG stepQ 256 (ps.drop i) at_ acc) (fun _ _ x _ => ps.length - (intOf x).toNat)
    case atStart => exact ⟨0, 0, [], Nat.zero_le _, rfl, rfl, hown0, hb01, Nat.le_refl _, hsl, hbes, by simp, by simpa using hsum, HIT.out⟩
    case round =>
      obtain ⟨i, at_, acc, hil, rfl, rfl, hown, hbr, hwr1, hrs, hbes, hacc, hat, hgo⟩ := hrel
      by_cases hlt : i < ps.length
      · obtain ⟨p, hp⟩ : ∃ p, ps[i]? = some p := ⟨_, List.getElem?_eq_getElem hlt⟩
        obtain ⟨pb, rfl, hpb, hcell⟩ := hrs i (.string p) (by rw [List.getElem?_map, hp]; rfl)
        have hpz := HSZ.out p (List.mem_of_getElem? hp)
        have hst := sum_step hp
        rw [drop_cons' hp] at hgo
        rw [hst] at hat
        have hiI : (i : Int) < (ps.length : Int) := by omega
        have hat4 : at_ ≤ 4000000 := by omega
        clear hst hp
        by_cases h0 : p.size = 0
        · have e0 : ((p.size : Int) > 0) = False := by simp [h0]
          rw [goG_none (stepQ_empty h0)] at hgo
          have HGO := Lib.hid hgo
          have HAT := Lib.hid hat
          have HL := Lib.hid hacc
          clear hgo hat hacc
          go_wp2_with fail
          go_roundw
          case rel => exact ⟨i + 1, at_ + p.size + 1, acc, by omega, by go_num, by go_num, hown, hbr, hwr1, hrs, hbes, HL.out, by have := HAT.out; omega, HGO.out⟩
          case measure => simp [intOf]; omega
        · have e0 : (0 : Int) < (p.size : Int) := by omega
          obtain ⟨va, vc, rfl, hvc, hvm, _⟩ := hown.sl
          unfold maxLen at hvm
          by_cases h256 : acc.length = 256
          · rw [goG_bad (by rw [decide_eq_true h256]; exact stepQ_many h0), Nat.add_zero] at hgo
            have HGO := Lib.hid (HBAD.out wr 15 at_ hbr hgo)
            have eL : ((acc.length : Int) == 256) = true := by rw [beq_iff_eq]; omega
            clear hgo hat hown
            go_wp2_with fail
            go_ret3
            exact HGO.out
          · have eL : ((acc.length : Int) == 256) = false := by rw [beq_eq_false_iff_ne]; omega
            have HL : acc.length < 256 := by omega
            have hstep := stepQ_item h0
            have hd := decide_eq_false h256
            have HOK := Lib.hid (fun x h => hgo.trans (goG_ok (x := x) (ps := ps.drop (i + 1)) (at_ := at_) (acc := acc) (p := p) (g := stepQ) (most := 256) (by rw [hd, hstep]; exact congrArg some h)))
            have HNO := Lib.hid (fun k j h => hgo.trans (goG_bad (k := k) (i := j) (ps := ps.drop (i + 1)) (at_ := at_) (acc := acc) (p := p) (g := stepQ) (most := 256) (by rw [hd, hstep]; exact congrArg some h)))
            have HAT := Lib.hid hat
            clear hgo hat hstep hd h256 h0
            go_wp2_with fail
            refine (ref_wrong p _ (by omega)).mono ?_
            rintro e w3 ⟨⟨q, rfl⟩, h⟩
            have hbr3 := below_drewN hbr q
            have hown3 : OwnI (wr.drewN q) w.heap.size (.slice va acc.length vc) acc := hown
            have hrs3 : RowSl (wr.drewN q) (some ⟨pb, 0, none⟩) (ps.map strV) := hrs
            have hw3 : w1.heap.size ≤ (wr.drewN q).heap.size := hwr1
            rcases h with ⟨hw, rfl⟩ | ⟨j, hw, rfl⟩
            · clear hbr hown hrs hwr1 hcell hpb
              go_wp2_with fail
              generalize wr.drewN q = w4 at *
              refine (ref_one p _ (by omega) hw).mono ?_
              rintro e w5 ⟨hb5, x, ok, rfl, hok, hno⟩
              have hbr5 := Bt hbr3 hb5
              have hown5 := hown3.below hb5
              have hrs5 := hrs3.below hb5
              have hw5 : w1.heap.size ≤ w5.heap.size := Nat.le_trans hw3 hb5.size
              clear hbr3 hown3 hrs3 hw3 hb5 hw
              obtain ⟨xn, xv, xh⟩ := x
              cases ok
              · have HGO := Lib.hid (HNO.out 12 0 (hno rfl))
                have hb6 := hbr5.alloc hbr5.size (.cells #[.string xn, .string xv, .bool xh] 78)
                have HG2 := Lib.hid (HBAD.out _ 12 at_ hb6 HGO.out)
                clear hok hno HOK HNO hbr5 hown5 hrs5
                go_wp2_with fail
                go_ret3
                exact HG2.out
              · have HGO := Lib.hid (HOK.out _ (hok rfl))
                clear hok hno HOK HNO
                have hstA := (Below.refl w5.heap.size w5).alloc (Nat.le_refl _) (.cells #[.string xn, .string xv, .bool xh] 78)
                have hbr6 := hbr5.alloc hbr5.size (.cells #[.string xn, .string xv, .bool xh] 78)
                have hown6 := hown5.below hstA
                have hrs6 := hrs5.below hstA
                have hstB := (Below.refl (w5.alloc (.cells #[.string xn, .string xv, .bool xh] 78)).heap.size (w5.alloc (.cells #[.string xn, .string xv, .bool xh] 78))).alloc (Nat.le_refl _) (.cells #[.string xn, .string xv, .bool xh] 78)
                have hbr7 := hbr6.alloc hbr6.size (.cells #[.string xn, .string xv, .bool xh] 78)
                have hown7 := hown6.below hstB
                have hrs7 := hrs6.below hstB
                have hl3 := (ItemAt.new (w := w5) (n := xn) (v := xv) (b := xh)).load
                have hbs := hbr5.size
                clear hstA hstB hbr5 hown5 hrs5 hbr6 hown6 hrs6
                go_wp2_with (at_builtin; refine wpList_app_item_at rfl (.tmp 54) (.tmp 56) rfl w.heap.size _ _ rfl hown7 (w5.heap.size + 1) 1 ⟨xn, xv, xh⟩ rfl (by have := heap_alloc_new (w5.alloc (.cells #[.string xn, .string xv, .bool xh] 78)) (.cells #[.string xn, .string xv, .bool xh] 78); rw [World.size_alloc] at this; exact this) (by omega) (by simp; omega) ?_)
                intro v8 w8 hown8 hg8 hat8
                have hbr8 := hown7.under hbr7 (Nat.le_refl _) hg8
                have hrs8 := hrs7.grown hg8 hbes
                have hbes8 := hbes.at hat8 (fun b hb => by have := (HLT.out b hb).2; omega)
                have hw8 : w1.heap.size ≤ w8.heap.size := by have := hg8.size; simp at this; omega
                clear hown7 hbr7 hrs7 hg8 hat8 hbes
                go_wp2_with fail
                go_roundw
                case rel => exact ⟨i + 1, at_ + p.size + 1, acc ++ [⟨xn, xv, xh⟩], by omega, by go_num, by go_num, hown8, hbr8, hw8, hrs8, hbes8, by simp; omega, by have := HAT.out; omega, HGO.out⟩
                case measure => simp [intOf]; omega
            · have hE : itemP p = .error (11, j) := by
                rcases itemP_ways p with ⟨i', h1, h2⟩ | h1
                · rw [hw] at h1; cases h1; exact h2
                · rw [hw] at h1; cases h1
              have HG2 := Lib.hid (HBAD.out _ 11 (at_ + j) hbr3 (HNO.out 11 j hE))
              have hj : j ≤ 4000000 := by
                have : j ≤ p.size := by
                  unfold wrongP at hw
                  have h1 := cutL_len 61 p.data.toList
                  have hl : p.data.toList.length = p.size := rfl
                  have hN : (cutN 61 p).size = (cutL 61 p.data.toList).1.length := by unfold cutN; rw [ofL_size]
                  have hV : (cutV 61 p).size = (cutL 61 p.data.toList).2.1.length := by unfold cutV; rw [ofL_size]
                  split at hw
                  · next h => cases hw; have := told_lt _ _ h; have := cutN_size 61 p; omega
                  · split at hw
                    · next h =>
                        have h2 := told_lt _ _ h
                        cases hw
                        by_cases hh : (cutL 61 p.data.toList).2.2 = true
                        · rw [if_pos hh] at h1; omega
                        · exfalso
                          rcases cut_ways 61 p with ⟨_, _, e, _⟩ | ⟨_, _, _, _, _, e, _⟩
                          · rw [e] at h; rw [told_nil] at h; cases h
                          · exact hh e
                    · cases hw
                omega
              clear hbr hown hrs hwr1 hcell hpb hE hbr3 hown3 hrs3 hw3 hw HOK HNO
              go_wp2_with fail
              go_ret3
              exact HG2.out
      · obtain rfl : i = ps.length := by omega
        rw [List.drop_length, goG_nil] at hgo
        have HGO := Lib.hid hgo
        obtain ⟨va, vc, rfl, hvc, hvm, hsl2⟩ := hown.sl
        have HS := Lib.hid hsl2
        clear hgo hat hown hsl2
        go_wp2_with fail
        go_ret3
        exact ⟨hbr, va, vc, by rw [HGO.out]; rfl, by rw [HGO.out]; exact HS.out⟩
end Go.Proofs.YtiaafljbddamhaaDoor

/- The walk of QueryReads. -/
namespace Go.Proofs.YtiaafljbddamhaaDoor
open Go.RowKit

theorem qreads_long (s : ByteArray) (w : World) (hg : Handle w) (hU : Utf8Laid w) (h : 4000 < s.size) : Calls Tryd.prog 9 #[.string s] w fun e w' => e = .returned (.bool true) ∧ Below w.heap.size w w' := by
  go_enter Tryd.func9, Tryd.ntmps9
  go_wp2_with fail
  refine (speaks16 _ hg hU).mono ?_
  rintro e w1 ⟨rfl, hb1⟩
  go_wp2_with fail
  go_ret
  exact ⟨rfl, hb1⟩
set_option maxHeartbeats 3200000 in
set_option maxRecDepth 100000 in
theorem qreads_walk (s : ByteArray) (w : World) (hg : Handle w) (hU : Utf8Laid w) (h : s.size ≤ 4000) : Calls Tryd.prog 9 #[.string s] w fun e w' => e = .returned (.bool true) ∧ Below w.heap.size w w' := by
  have cQ' : ∀ W, Handle W → Utf8Laid W → Calls Tryd.prog 34 #[.string s] W fun e w' => Below W.heap.size W w' ∧ ∃ a c v, e = .returned (.tuple #[.slice a (itemsQ s).1.length c, v]) ∧ (itemsQ s).1.length ≤ c ∧ c ≤ maxLen ∧ ItemsOwn w' a (itemsQ s).1 ∧ IsErr w' v (itemsQ s).2.1 (itemsQ s).2.2 := fun W h1 h2 => query_Items' s W h1 h2 (by omega)
  have cR' : ∀ W, Calls Tryd.prog 35 #[.string s] W fun e w' => Below W.heap.size W w' ∧ ∃ a c, e = .returned (.tuple #[.slice a (itemsQ s).1.length c, .int .i64 ((itemsQ s).2.1 : Int), .int .i64 ((itemsQ s).2.2 : Int)]) ∧ ItemsOwn w' a (itemsQ s).1 := fun W => ref_Items s W (by omega)
  have hl := itemsQ_len s
  generalize (itemsQ s).1 = l at *
  generalize (itemsQ s).2.1 = k at *
  generalize (itemsQ s).2.2 = i at *
  have cQ := Lib.hid cQ'
  have cR := Lib.hid cR'
  clear cQ' cR'
  have ek : ((k : Int) == (k : Int)) = true := by simp
  have ei : ((i : Int) == (i : Int)) = true := by simp
  go_enter Tryd.func9, Tryd.ntmps9
  go_wp2_with fail
  refine (speaks16 _ hg hU).mono ?_
  rintro e w1 ⟨rfl, hb1⟩
  go_wp2_with fail
  refine (cQ.out _ (hg.below hb1) (hU.below hb1)).mono ?_
  rintro e w2 ⟨hb2, a, c, v, rfl, _, hcm, hsl, hv⟩
  have hb12 := Bt hb1 hb2
  clear hb1 hb2
  go_wp2_with fail
  refine (cR.out _).mono ?_
  rintro e w3 ⟨hb3, a3, c3, rfl, hsl3⟩
  have hb13 := Bt hb12 hb3
  have hsl2 := hsl.below hb3
  have hv3 := hv.below hb3
  have cS := Lib.hid (ref16_Same a c a3 c3 l l _ hsl2 hsl3 (by omega) (by omega))
  have hg3 := hg.below hb13
  clear hb12 hb3 hsl hsl2 hsl3 hv
  rcases hv3 with ⟨hk, rfl⟩ | ⟨hk, n, hv3⟩
  · subst hk
    go_wp2_with fail
    refine cS.out.mono ?_
    rintro e w4 ⟨rfl, q, rfl⟩
    have hb14 := below_drewN hb13 q
    go_wp2_with fail
    refine (fault_Kind_nil _).mono ?_
    rintro e w5 ⟨rfl, hb5⟩
    have hb15 := Bt hb14 hb5
    go_wp2_with fail
    go_ret
    exact ⟨rfl, hb15⟩
  · have hv3' : IsErr w3 v k i := .inr ⟨hk, n, hv3⟩
    obtain ⟨u, rfl⟩ := hv3.ne_nil
    have HV := Lib.hid hv3'
    have HK := Lib.hid hk
    clear hv3 hv3' hk
    go_wp2_with fail
    refine cS.out.mono ?_
    rintro e w4 ⟨rfl, q, rfl⟩
    have hb14 := below_drewN hb13 q
    have hbq := below_drewN (Below.refl w3.heap.size w3) q
    go_wp2_with fail
    refine (fault_Kind _ k i _ (hg3.drewN q) (HV.out.below hbq)).mono ?_
    rintro e w5 ⟨rfl, hb5⟩
    have hb15 := Bt hb14 hb5
    go_wp2_with fail
    refine (fault_At _ k i _ ((hg3.drewN q).below hb5) ((HV.out.below hbq).below hb5) HK.out).mono ?_
    rintro e w6 ⟨rfl, hb6⟩
    have hb16 := Bt hb15 hb6
    go_wp2_with fail
    go_ret
    exact ⟨rfl, hb16⟩
theorem walkQueryReads (s : ByteArray) (w : World) (hg : Handle w) (hU : Utf8Laid w) (_ : s.size ≤ maxLen) : Calls Tryd.prog 9 #[.string s] w fun e w' => e = .returned (.bool true) ∧ Below w.heap.size w w' := by
  by_cases h : s.size ≤ 4000
  · exact qreads_walk s w hg hU h
  · exact qreads_long s w hg hU (by omega)
end Go.Proofs.YtiaafljbddamhaaDoor
