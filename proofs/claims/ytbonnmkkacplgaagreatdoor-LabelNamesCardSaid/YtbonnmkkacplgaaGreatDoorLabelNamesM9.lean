/- puny.Encode. -/
import Derived.Test.YtbonnmkkacplgaaGreatDoorLabelNamesM7
import Derived.Test.YtbonnmkkacplgaaGreatDoorLabelNamesM8
import Derived.Sort.OwnSortedInts
import Derived.Test.YtbonnmkkacplgaaGreatDoorLabelNamesM6

namespace Go.Proofs.YtbonnmkkacplgaaGreatDoor
open Go.RowKit

def encE (zs : List Int) : Except (Nat × Nat) (List UInt8) :=
  if 256 < zs.length then .error (14, 256) else if rightLen zs < zs.length then .error (16, rightLen zs) else .ok (encN (nats zs))
def EncPost (zs : List Int) (w : World) (e : Ending) (w' : World) : Prop := Below w.heap.size w w' ∧
  ((∃ k i : Nat, ∃ v, encE zs = .error (k, i) ∧ k ≠ 0 ∧ e = .returned (.tuple #[.string ⟨#[]⟩, v]) ∧ IsFault w' v k i) ∨ ∃ l : List UInt8, encE zs = .ok l ∧ e = .returned (.tuple #[.string ⟨l.toArray⟩, .nilIface]))
theorem encE_long {zs : List Int} (h : 256 < zs.length) : encE zs = .error (14, 256) := by unfold encE; rw [if_pos h]
theorem encE_bad {zs : List Int} {i : Nat} (h : ¬ 256 < zs.length) (h2 : rightLen zs = i) (h3 : i < zs.length) : encE zs = .error (16, i) := by unfold encE; rw [if_neg h, if_pos (by omega), h2]
theorem encE_ok {zs : List Int} (h : ¬ 256 < zs.length) (h2 : rightLen zs = zs.length) : encE zs = .ok (encN (nats zs)) := by unfold encE; rw [if_neg h, if_neg (by omega)]
theorem conv_u8 {c : Nat} (h : c < 128) : ((UInt8.ofNat c).toNat : Int) = (c : Int) := by rw [UInt8.toNat_ofNat_of_lt' (show c < 256 by omega)]
/-- Clone, Sort and Compact of a row of ints, and what is left. -/
def MarkRow (w : World) (g : Nat) (cp : List Int) : Prop := g < w.heap.size ∧ ∀ j, j < cp.length → w.cell? ⟨g, 0 + j, none⟩ = some (.int .i64 (cp.getD j 0))
theorem MarkRow.but {w w' : World} {g : Nat} {cp : List Int} (h : MarkRow w g cp) (hs : w.heap.size ≤ w'.heap.size) (hb : w'.heap[g]? = w.heap[g]?) : MarkRow w' g cp :=
  ⟨Nat.lt_of_lt_of_le h.1 hs, fun j hj => (World.cell?_of_block hb).trans (h.2 j hj)⟩

theorem beq_dec (a b : Nat) : ((a : Int) == (b : Int)) = decide (a = b) := by
  by_cases h : a = b
  · subst h; simp
  · rw [decide_eq_false h, beq_eq_false_iff_ne]; omega
theorem own_Holds {w : World} {g : Nat} {cur : Array Value} {zs : List Int} (hh : w.heap[g]? = some (.cells cur 3 (0, 0))) (ht : cur.toList.take zs.length = zs.map (Value.int .i64)) : Go.Sort.Holds (Value.int .i64) w g 0 zs.toArray :=
  holds_of_blockI hh ht
theorem sorted_Holds {w : World} {g n : Nat} {os : Array Obj} {zs ts : List Int} (hl : ts.length = zs.length) (hg : g < w.heap.size) (h : Go.Sort.Holds (Value.int .i64) w g 0 zs.toArray) :
    Go.Sort.Holds (Value.int .i64) (Go.Sort.grow (Go.Sort.putRow (Value.int .i64) (Go.Sort.ahead w n) g 0 ts.toArray) os) g 0 ts.toArray :=
  Go.Sort.holds_grow _ _ _ _ _ _ (by rw [Go.Sort.size_putRow]; exact hg) (Go.Sort.holds_putRow _ _ _ _ _ _ (Go.Sort.holds_ahead _ _ _ _ _ _ h) (by simp [hl]))
theorem compact_row {w : World} {g q : Nat} {ss cp : List Int} (hl : cp.length ≤ ss.length) (hg : g < w.heap.size) (h : Go.Sort.Holds (Value.int .i64) w g 0 ss.toArray) :
    MarkRow (Go.Sort.putRow (Value.int .i64) (Go.Sort.ahead w q) g 0 (cp ++ List.replicate (ss.length - cp.length) 0).toArray) g cp ∧ w.grownBy (Go.Sort.putRow (Value.int .i64) (Go.Sort.ahead w q) g 0 (cp ++ List.replicate (ss.length - cp.length) 0).toArray) (some g) := by
  have hH := Go.Sort.holds_putRow (Value.int .i64) (Go.Sort.ahead w q) g 0 ss.toArray (cp ++ List.replicate (ss.length - cp.length) 0).toArray (Go.Sort.holds_ahead _ _ _ _ _ _ h) (by simp; omega)
  refine ⟨⟨by rw [Go.Sort.size_putRow]; exact hg, fun j hj => ?_⟩, ?_⟩
  · have hj2 : j < (cp ++ List.replicate (ss.length - cp.length) (0 : Int)).toArray.size := by simp; omega
    have := (hH j hj2).1
    rw [getElem!_pos _ j hj2] at this
    rw [this]
    simp [List.getElem_append, hj, List.getD]
  · have := grownBy_sortedI (w := w) (g := g) (n := q) (os := #[]) (cp ++ List.replicate (ss.length - cp.length) 0).toArray
    rwa [Go.Sort.grow_empty] at this
theorem mul_int (d m n h : Nat) (hm : n ≤ m) (h1 : d ≤ 300000000) (h2 : m ≤ 1114111) (h3 : h ≤ 256) : wrap64 ((d : Int) + wrap64 (((m : Int) - (n : Int)) * ((h : Int) + 1))) = ((d + (m - n) * (h + 1) : Nat) : Int) := by
  have e : ((m : Int) - (n : Int)) * ((h : Int) + 1) = (((m - n) * (h + 1) : Nat) : Int) := by
    rw [Int.natCast_mul]; congr 1; omega
  have hle : (m - n) * (h + 1) ≤ 1114111 * 257 := Nat.mul_le_mul (by omega) (by omega)
  rw [e]
  generalize (m - n) * (h + 1) = q at *
  rw [wrap64_inA (q : Int) (by omega) (by omega), wrap64_inA _ (by omega) (by omega)]
  simp

set_option maxHeartbeats 6400000 in
set_option maxRecDepth 100000 in
theorem puny_Encode1 (b off cap : Nat) (zs : List Int) (w : World) (hne : 0 < zs.length) (h256 : zs.length ≤ 256) (hcap : zs.length ≤ cap) (hcm : cap ≤ maxLen) (hbw : b < w.heap.size) (hcell : ∀ j, j < zs.length → w.cell? ⟨b, off + j, none⟩ = some (.int .i64 (zs.getD j 0))) :
    Calls Tryz.prog 36 #[.slice (some ⟨b, off, none⟩) zs.length cap] w (EncPost zs w) := by
  have hlI : ¬ (zs.length : Int) > 256 := by omega
  have hst : Below w.heap.size w (w.alloc (.cells #[.pointer none, .slice none 0 0] 83)) := (Below.refl _ _).alloc (Nat.le_refl _) _
  have hbl0 : Bld (w.alloc (.cells #[.pointer none, .slice none 0 0] 83)) (w.heap.size + 1) w.heap.size [] := Bld.new rfl (heap_alloc_new w _) (by omega)
  have hszA : (w.alloc (.cells #[.pointer none, .slice none 0 0] 83)).heap.size = w.heap.size + 1 := World.size_alloc _ _
  have hrl := rightLen_le zs
  have hokE := fun h => encE_ok (zs := zs) (by omega) h
  have hbadE := fun i h h2 => encE_bad (zs := zs) (i := i) (by omega) h h2
  have HOKE := Lib.hid hokE
  have HBADE := Lib.hid hbadE
  have HCELL := Lib.hid hcell
  have HST := Lib.hid hst
  have HBL0 := Lib.hid hbl0
  unfold maxLen at hcm
  clear hokE hbadE hcell hst hbl0
  go_enter Tryz.func36, Tryz.ntmps36
  go_wp2_with fail
  go_loopw [23] (fun i wr => ∃ k : Nat, k ≤ zs.length ∧ i = .int .i64 k ∧ k ≤ rightLen zs ∧ Bld wr (w.heap.size + 1) w.heap.size (basicL ((nats zs).take k)) ∧ ButB (w.heap.size + 1) w.heap.size (w.alloc (.cells #[.pointer none, .slice none 0 0] 83)) wr) (fun i _ => zs.length - (intOf i).toNat)
  case atStart => exact ⟨0, Nat.zero_le _, rfl, Nat.zero_le _, HBL0.out, ButB.refl _ _ _⟩
  case round =>
    obtain ⟨k, hkl, rfl, hkr, hbl, hbu⟩ := hrel
    have hbW := HST.out.trans (hbu.below (B0 := w.heap.size) (Nat.le_refl _) (by omega))
    have hsz : w.heap.size + 1 ≤ wr.heap.size := by have := hbu.size; omega
    by_cases hlt : k < zs.length
    · have hc := (hbW.cell (p := ⟨b, off + k, none⟩) hbw).trans (HCELL.out k hlt)
      have hstep := rightLen_step zs k hkr hlt
      have hnat : (nats zs)[k]? = some (zs.getD k 0).toNat := by
        unfold nats
        rw [List.getElem?_map, List.getElem?_eq_getElem hlt]
        simp [List.getD, hlt]
      generalize zs.getD k 0 = z at *
      have hkI : (k : Int) < (zs.length : Int) := by omega
      have cR := Lib.hid (puny_right z wr)
      have hsn := basicL_snoc hnat
      have hlb : (basicL ((nats zs).take k)).length ≤ 256 := by
        rw [basicL_len]
        refine Nat.le_trans (List.length_filter_le _ _) ?_
        rw [List.length_take]; omega
      generalize basicL ((nats zs).take k) = acc at *
      have HBU := Lib.hid hbu
      have HBL := Lib.hid hbl
      have HBW := Lib.hid hbW
      cases hr : rightB z with
      | false =>
        have HE := Lib.hid (HBADE.out k (hstep.2 hr) hlt)
        rw [hr] at cR
        clear hstep hnat hsn hr hbu hbl hbW
        go_wp2_with fail
        refine cR.out.mono ?_
        rintro e w2 ⟨rfl, hb2⟩
        go_wp2_with fail
        refine (api_Fail' 16 k _).mono ?_
        rintro e w3 ⟨v, rfl, hv, hb3⟩
        have hbE := HBW.out.trans ((Bt hb2 hb3).mono (by omega))
        go_wp2_with fail
        go_ret2
        exact ⟨hbE, .inl ⟨16, k, v, HE.out, by decide, rfl, hv⟩⟩
      | true =>
        have hnx := hstep.1 hr
        obtain ⟨c, rfl, hcR, _⟩ := right_nat hr
        rw [hr] at cR
        rw [Int.toNat_natCast] at hsn
        clear hstep hnat hr hbu hbl hbW
        by_cases hc128 : c < 128
        · rw [if_pos hc128] at hsn
          have HSN := Lib.hid hsn
          have hcI : (c : Int) < 128 := by omega
          have hcW : ∀ W, Bld W (w.heap.size + 1) w.heap.size acc → w.heap.size + 1 ≤ W.heap.size → Calls Tryz.prog 61 #[.pointer (some ⟨w.heap.size, 0, none⟩), .int .u8 (c : Int)] W fun e w' => e = .returned .nilIface ∧ Bld w' (w.heap.size + 1) w.heap.size (acc ++ [UInt8.ofNat c]) ∧ ButB (w.heap.size + 1) w.heap.size W w' := fun W h1 h2 => by
            have := bld_WriteByte (w.heap.size + 1) w.heap.size acc (UInt8.ofNat c) W h1 (by omega) h2
            rwa [conv_u8 hc128] at this
          have CW := Lib.hid hcW
          clear hsn hcW
          go_wp2_with fail
          refine cR.out.mono ?_
          rintro e w2 ⟨rfl, hb2⟩
          have hbl2 := HBL.out.below hb2
          have hbu2 := HBU.out.trans (ButB.of_below (hb2.mono hsz))
          have hs2 := hb2.size
          go_wp2_with fail
          refine (CW.out _ hbl2 (by omega)).mono ?_
          rintro e w3 ⟨rfl, hbl3, hbu3⟩
          go_wp2_with fail
          go_roundw
          case rel => exact ⟨k + 1, by omega, by go_num, hnx, by rw [HSN.out]; exact hbl3, hbu2.trans hbu3⟩
          case measure => simp [intOf]; omega
        · rw [if_neg hc128] at hsn
          have HSN := Lib.hid hsn
          have hcI : ¬ (c : Int) < 128 := by omega
          clear hsn
          go_wp2_with fail
          refine cR.out.mono ?_
          rintro e w2 ⟨rfl, hb2⟩
          have hbl2 := HBL.out.below hb2
          have hbu2 := HBU.out.trans (ButB.of_below (hb2.mono hsz))
          go_wp2_with fail
          go_roundw
          case rel => exact ⟨k + 1, by omega, by go_num, hnx, by rw [HSN.out]; exact hbl2, hbu2⟩
          case measure => simp [intOf]; omega
    · obtain rfl : k = zs.length := by omega
      have hall : rightLen zs = zs.length := by omega
      have HOK := Lib.hid (HOKE.out hall)
      have hright := right_all zs hall
      rw [← nats_len zs, List.take_length] at hbl
      have hzc : ∀ j, j < zs.length → ∃ c, (nats zs)[j]? = some c ∧ zs.getD j 0 = (c : Int) ∧ c ≤ 1114111 := fun j hj => by
        have h1 : (nats zs)[j]? = some (zs.getD j 0).toNat := by
          unfold nats
          rw [List.getElem?_map, List.getElem?_eq_getElem hj]
          simp [List.getD, hj]
        have h2 := rightC_lt (hright _ (List.mem_of_getElem? h1))
        have h3 : 0 ≤ zs.getD j 0 := by
          have := (rightLen_step zs j (by omega) hj).2
          cases hr : rightB (zs.getD j 0) with
          | true => obtain ⟨c, e, _⟩ := right_nat hr; omega
          | false => have := this hr; omega
        exact ⟨_, h1, by omega, by omega⟩
      have hpos : ∀ z ∈ zs, 0 ≤ z := fun z hz => by
        obtain ⟨j, hj, rfl⟩ := List.mem_iff_getElem.1 hz
        obtain ⟨c, _, h2, _⟩ := hzc j hj
        simp [List.getD, hj] at h2
        omega
      have hmk := marks_of zs hpos
      have hcf := compact_facts zs
      have hcl : (Lib.compact (srtI zs)).length ≤ zs.length := by have := Lib.compact_length_le (srtI zs); rw [srtI_len] at this; exact this
      have hsrt : zs.mergeSort (fun x y => decide (x ≤ y)) = srtI zs := rfl
      have hmax : ∀ z ∈ Lib.compact (srtI zs), z ≤ 1114111 := fun z hz => by
        obtain ⟨j, hj, rfl⟩ := List.mem_iff_getElem.1 ((hcf.2 z).1 hz)
        obtain ⟨c, _, h2, h3⟩ := hzc j hj
        simp [List.getD, hj] at h2
        omega
      have hcslen := nats_len zs
      have hENC : encN (nats zs) = (encR (nats zs) (basicL (nats zs)).length (markL (nats zs)) 128 ⟨0, 72, (basicL (nats zs)).length, basicO (nats zs)⟩).out := rfl
      rw [← hmk] at hENC
      have hPI := PInv.zero (nats zs) (by omega)
      have hbo : basicO (nats zs) = if (basicL (nats zs)).length = 0 then [] else basicL (nats zs) ++ [45] := rfl
      have hob : (basicL (nats zs)).length ≤ 256 := by
        rw [basicL_len]
        exact Nat.le_trans (List.length_filter_le _ _) (by omega)
      have hbase : (basicL (nats zs)).length = 0 → basicL (nats zs) = [] := List.eq_nil_of_length_eq_zero
      have hnil : (basicL (nats zs)).length = 0 → basicO (nats zs) = basicL (nats zs) := fun h => by rw [hbo, if_pos h, hbase h]
      have hcons : (basicL (nats zs)).length ≠ 0 → basicO (nats zs) = basicL (nats zs) ++ [45] := fun h => by rw [hbo, if_neg h]
      generalize hcs : nats zs = cs at *
      generalize hcpx : Lib.compact (srtI zs) = cp at *
      have hclx : (Lib.compact (srtI zs)).length ≤ zs.length := by rw [hcpx]; exact hcl
      have HENC := Lib.hid hENC
      have HMAX := Lib.hid hmax
      have HZC := Lib.hid hzc
      have HUP := Lib.hid hcf.1
      have HPI := Lib.hid hPI
      have HNIL := Lib.hid hnil
      have HCONS := Lib.hid hcons
      have HBW := Lib.hid hbW
      have HCS := Lib.hid hcs
      clear hENC hmax hzc hcf hPI hnil hcons hbo hbase hmk hpos hright hall hcs hrl hkl hkr HOKE HBADE hbW
      have cL := Lib.hid (bld_Len _ _ _ _ hbl)
      generalize hbl0 : (basicL cs).length = nb at *
      by_cases hb0 : nb = 0
      all_goals (first
        | (have hbs := HNIL.out hb0
           have hbI : ¬ (nb : Int) > 0 := by omega
           rw [← hbs] at hbl
           have HBL := Lib.hid hbl
           have HBU := Lib.hid hbu
           clear hbs hbl hbu hb0
           go_wp2_with fail
           refine cL.out.mono ?_
           rintro e w2 ⟨rfl, rfl⟩
           have hcc := fun j hj => (HBW.out.cell (p := ⟨b, off + j, none⟩) hbw).trans (HCELL.out j hj)
           have cC := Lib.hid (Tryz.slices_Clone_int b off zs.length cap zs _ (Nat.le_refl _) (by omega) hcc)
           clear hcc
           go_wp2_with fail)
        | (have hbs := HCONS.out hb0
           have hbI : (nb : Int) > 0 := by omega
           have cW := Lib.hid (bld_WriteByte _ _ _ 45 _ hbl (by omega) hsz)
           rw [← hbs] at cW
           have HBU0 := Lib.hid hbu
           clear hbs hbl hbu hb0
           go_wp2_with fail
           refine cL.out.mono ?_
           rintro e w2 ⟨rfl, rfl⟩
           go_wp2_with fail
           refine cW.out.mono ?_
           rintro e w2 ⟨rfl, hbl2, hbu2⟩
           have HBL := Lib.hid hbl2
           have HBU := Lib.hid (HBU0.out.trans hbu2)
           clear hbl2 hbu2
           have HBW := Lib.hid (HST.out.trans (HBU.out.below (B0 := w.heap.size) (Nat.le_refl _) (by omega)))
           have hcc := fun j hj => (HBW.out.cell (p := ⟨b, off + j, none⟩) hbw).trans (HCELL.out j hj)
           have cC := Lib.hid (Tryz.slices_Clone_int b off zs.length cap zs _ (Nat.le_refl _) (by omega) hcc)
           clear hcc
           go_wp2_with fail))
      all_goals
        have hszB := HBU.out.size
        refine cC.out.mono ?_
        rintro e w4 ⟨v4, rfl, hown4, _, hb4⟩
        rw [List.take_length] at hown4
        rcases hown4.2 with ⟨_, h0⟩ | ⟨g, cap4, cur, rfl, hg4, hh4, hc41, hc42, hc43, hc44⟩
        · omega
        rw [Nat.mul_one] at hc43 hc44
        have hgl := lt_of_block hh4
        have hBG4 := HBL.out.guard hb4 hg4 hgl
        have hBU4 := HBU.out.trans (ButB.of_below (hb4.mono (by omega)))
        have hH4 := own_Holds hh4 hc44
        have cS := Lib.hid (Tryz.slices_Sort_int g 0 cap4 zs w4 hH4 hgl (by omega))
        have HH4 := Lib.hid hH4
        have HBG4 := Lib.hid hBG4
        have HBU4 := Lib.hid hBU4
        have hs4 : w.heap.size + 1 ≤ w4.heap.size := by have := hb4.size; omega
        have hcap4 := hc41
        clear hown4 hh4 hc41 hc42 hc43 hc44 hBG4 hBU4 hH4 cC hb4
        go_wp2_with fail
        refine cS.out.mono ?_
        rintro e w5 ⟨rfl, nn, os, hw5⟩
        rw [hsrt] at hw5
        have hH5 : Go.Sort.Holds (Value.int .i64) w5 g 0 (srtI zs).toArray := by rw [hw5]; exact sorted_Holds (srtI_len zs) hgl HH4.out
        have hg5 : w4.grownBy w5 (some g) := by rw [hw5]; exact grownBy_sortedI _
        have hgl5 : g < w5.heap.size := Nat.lt_of_lt_of_le hgl hg5.size
        have HBG5 := Lib.hid (HBG4.out.grown hg5)
        have HBU5 := Lib.hid (HBU4.out.trans (ButB.of_below ((Below.refl (w.heap.size + 1) w4).grown hg5 hs4 (fun j hj => by injection hj with hj; omega))))
        have cP := Lib.hid (Tryz.slices_Compact_int g 0 cap4 (srtI zs) w5 hH5 (by rw [srtI_len]; omega) (by rw [srtI_len]; omega))
        have HH5 := Lib.hid hH5
        have hs5 := hg5.size
        clear hw5 hH5 hg5 cS HBG4 HBU4 HH4
        rw [srtI_len] at cP
        go_wp2_with fail
        refine cP.out.mono ?_
        rintro e w6 ⟨rfl, q, hw6⟩
        obtain ⟨hmr0, hg60⟩ := compact_row (q := q) (cp := Lib.compact (srtI zs)) (ss := srtI zs) (by rw [srtI_len]; exact hclx) hgl5 HH5.out
        rw [srtI_len] at hmr0 hg60
        rw [← hw6] at hmr0 hg60
        have hBG6 := HBG5.out.grown hg60
        have hBU6 := HBU5.out.trans (ButB.of_below ((Below.refl (w.heap.size + 1) w5).grown hg60 (by omega) (fun j hj => by injection hj with hj; omega)))
        have hs6 := hg60.size
        rw [hcpx] at hmr0
        rw [hcpx]
        have HMR := Lib.hid hmr0
        have HBG6 := Lib.hid hBG6
        have HBU6 := Lib.hid hBU6
        have hgB : w.heap.size + 1 ≤ g := by omega
        have hs6B : w.heap.size + 1 ≤ w6.heap.size := by omega
        clear hmr0 hg60 hBG6 hBU6 hw6 HBG5 HBU5 HH5 cP HBL HBU hs5 hs6 hs4 hszB hcap4
        go_wp2_with fail
        go_loopw [9, 10, 11, 12, 51] (fun nv bv dv hv iv wr => ∃ (j n : Nat) (s : PSt), j ≤ cp.length ∧ iv = .int .i64 j ∧ nv = .int .i64 n ∧ bv = .int .i64 s.bias ∧ dv = .int .i64 s.delta ∧ hv = .int .i64 s.h ∧ n ≤ 1114112 ∧ PInv cs n s ∧ encR cs nb (remL (cp.drop j)) n s = encR cs nb (remL cp) 128 ⟨0, 72, nb, basicO cs⟩ ∧ (∀ z ∈ cp.drop j, 128 ≤ z → (n : Int) ≤ z) ∧ BldG wr (w.heap.size + 1) w.heap.size g s.out ∧ ButG (w.heap.size + 1) w.heap.size g w6 wr) (fun _ _ _ _ iv _ => cp.length - (intOf iv).toNat)
        case atStart => exact ⟨0, 128, ⟨0, 72, nb, basicO cs⟩, Nat.zero_le _, rfl, rfl, rfl, rfl, rfl, by decide, HPI.out, by rw [List.drop_zero], fun z _ h => h, HBG6.out, ButG.refl _ _ _ _⟩
        case round =>
          obtain ⟨j, n, s, hjl, rfl, rfl, rfl, rfl, rfl, hn, hPI, hgo, hge, hbl, hbu⟩ := hrel
          have hszw : w.heap.size + 1 ≤ wr.heap.size := Nat.le_trans hs6B hbu.1.size
          by_cases hlt : j < cp.length
          · have hmc := (HMR.out.but hbu.1.size hbu.2).2 j hlt
            rw [Nat.zero_add] at hmc
            have hm0 : cp.getD j 0 ∈ cp := by simp [List.getD, hlt]
            have hmx := HMAX.out _ hm0
            have hdrop : cp.drop j = cp.getD j 0 :: cp.drop (j + 1) := by
              rw [List.drop_eq_getElem_cons hlt]; simp [List.getD, hlt]
            have hupj : ∀ z ∈ cp.drop (j + 1), cp.getD j 0 < z := fun z hz => by
              have h1 := HUP.out.drop (i := j)
              rw [hdrop] at h1
              exact (List.pairwise_cons.1 h1).1 z hz
            rw [hdrop] at hgo hge
            generalize cp.getD j 0 = mz at *
            have hgl6 := (HMR.out.but hbu.1.size hbu.2).1
            have hjI : (j : Int) < (cp.length : Int) := by omega
            by_cases hm128 : mz < 128
            · rw [remL_cons_lt hm128] at hgo
              have HGO := Lib.hid hgo
              have HGE := Lib.hid (fun z hz h => hge z (List.mem_cons_of_mem _ hz) h)
              have HBL := Lib.hid hbl
              have HBU := Lib.hid hbu
              have HPJ := Lib.hid hPI
              clear hgo hge hbl hbu hPI hupj hdrop hm0
              go_wp2_with fail
              go_roundw
              case rel => exact ⟨j + 1, n, s, by omega, by go_num, rfl, rfl, rfl, rfl, hn, HPJ.out, HGO.out, HGE.out, HBL.out, HBU.out⟩
              case measure => simp [intOf]; omega
            · rw [remL_cons_ge hm128] at hgo
              have hnm := hge mz (by simp) (by omega)
              obtain ⟨m, rfl⟩ : ∃ m : Nat, mz = m := ⟨mz.toNat, by omega⟩
              rw [Int.toNat_natCast] at hgo
              have hnm' : n ≤ m := by omega
              have hm1 : m ≤ 1114111 := by omega
              have hPS := hPI.start (by omega) hnm'
              have hh := hPI.2.2.1
              have hhl : (cs.filter fun c => decide (c < n)).length ≤ cs.length := List.length_filter_le _ _
              have hdel := mul_int s.delta m n s.h hnm' (by have := hPI.1; omega) hm1 (by omega)
              have hhb : s.h ≤ 256 := by omega
              have HDEL := Lib.hid (congrArg (Value.int .i64) hdel)
              have HGO := Lib.hid hgo
              have HUPJ := Lib.hid hupj
              have HPS := Lib.hid hPS
              have HBL := Lib.hid hbl
              have HBU := Lib.hid hbu
              clear hgo hge hbl hbu hPI hupj hdrop hm0 hPS hdel hh hhl
              go_wp2_with fail
              generalize hwz : wr = wz at *
              clear hwz
              go_loopw [10, 11, 12, 68] (fun bv dv hv iv wi => ∃ (k : Nat) (u : PSt), k ≤ zs.length ∧ u = roundK cs nb m n s k ∧ iv = .int .i64 k ∧ bv = .int .i64 u.bias ∧ dv = .int .i64 u.delta ∧ hv = .int .i64 u.h ∧ PIn cs m k u ∧ BldG wi (w.heap.size + 1) w.heap.size g u.out ∧ ButG (w.heap.size + 1) w.heap.size g wz wi) (fun _ _ _ iv _ => zs.length - (intOf iv).toNat)
              case atStart => exact ⟨0, roundK cs nb m n s 0, Nat.zero_le _, rfl, rfl, rfl, HDEL.out, rfl, HPS.out, HBL.out, ButG.refl _ _ _ _⟩
              case round =>
                obtain ⟨k, u, hkl, hu, rfl, rfl, rfl, rfl, hPk, hbl, hbu⟩ := hrel
                have hszk : w.heap.size + 1 ≤ wr.heap.size := Nat.le_trans hszw hbu.1.size
                have hbWk := HST.out.trans (((HBU6.out.trans HBU.out.1).trans hbu.1).below (B0 := w.heap.size) (Nat.le_refl _) (by omega))
                by_cases hltk : k < zs.length
                · have hc := (hbWk.cell (p := ⟨b, off + k, none⟩) hbw).trans (HCELL.out k hltk)
                  obtain ⟨c, hcs, hzk, hcm1⟩ := HZC.out k hltk
                  rw [hzk] at hc
                  have hkI : (k : Int) < (zs.length : Int) := by omega
                  have hPn := hPk.step (basic := nb) hm1 (by omega) hcs
                  have hun : roundK cs nb m n s (k + 1) = stepC m nb u c := by rw [hu]; exact roundK_succ hcs
                  have hud := hPk.1
                  have hub := hPk.2.1
                  have huh := hPk.h_le
                  have huo := hPk.2.2.2
                  have HPN := Lib.hid hPn
                  have HUN := Lib.hid hun
                  have HBLk := Lib.hid hbl
                  have HBUk := Lib.hid hbu
                  clear hPn hun hbl hbu hPk hu hzk hcs hbWk
                  by_cases hcm2 : c < m
                  · have hst : stepC m nb u c = ⟨u.delta + 1, u.bias, u.h, u.out⟩ := by unfold stepC; rw [if_pos hcm2]
                    rw [hst] at HPN HUN
                    have hcI : (c : Int) < (m : Int) := by omega
                    clear hst
                    go_wp2_with fail
                    go_roundw
                    case rel => exact ⟨k + 1, ⟨u.delta + 1, u.bias, u.h, u.out⟩, by omega, HUN.out.symm, by go_num, rfl, by go_num, rfl, HPN.out, HBLk.out, HBUk.out⟩
                    case measure => simp [intOf]; omega
                  · by_cases hcm3 : c = m
                    · subst hcm3
                      have hst : stepC c nb u c = ⟨0, adaptN u.delta (u.h + 1) (decide (u.h = nb)), u.h + 1, u.out ++ numD u.delta u.bias⟩ := by unfold stepC; rw [if_neg hcm2, if_pos rfl]
                      rw [hst] at HPN HUN
                      have cN := Lib.hid (puny_number (w.heap.size + 1) w.heap.size g u.out u.delta u.bias wr HBLk.out (by omega) hszk (by omega) (by omega))
                      have cA' : ∀ W, Calls Tryz.prog 67 #[.int .i64 (u.delta : Int), .int .i64 ((u.h : Int) + 1), .bool ((u.h : Int) == (nb : Int))] W fun e w' => e = .returned (.int .i64 ((adaptN u.delta (u.h + 1) (decide (u.h = nb)) : Nat) : Int)) ∧ W = w' := fun W => by
                        have := puny_Adapt (u.delta : Int) ((u.h + 1 : Nat) : Int) ((u.h : Int) == (nb : Int)) W (by omega) (by omega)
                        rw [adaptZ_nat _ _ _ (by omega)] at this
                        rw [beq_dec] at this ⊢
                        simpa using this
                      have CA := Lib.hid cA'
                      clear hst cA'
                      generalize adaptN u.delta (u.h + 1) (decide (u.h = nb)) = ad at *
                      generalize numD u.delta u.bias = nd at *
                      go_wp2_with fail
                      refine cN.out.mono ?_
                      rintro e w8 ⟨rfl, hbl8, hbu8⟩
                      go_wp2_with fail
                      refine (CA.out _).mono ?_
                      rintro e w9 ⟨rfl, rfl⟩
                      go_wp2_with fail
                      go_roundw
                      case rel => exact ⟨k + 1, ⟨0, ad, u.h + 1, u.out ++ nd⟩, by omega, HUN.out.symm, by go_num, rfl, rfl, by go_num, HPN.out, hbl8, HBUk.out.trans hbu8⟩
                      case measure => simp [intOf]; omega
                    · have hst : stepC m nb u c = u := by unfold stepC; rw [if_neg hcm2, if_neg hcm3]
                      rw [hst] at HPN HUN
                      have hcI : ¬ (c : Int) < (m : Int) := by omega
                      have hcJ : ((c : Int) == (m : Int)) = false := by rw [beq_eq_false_iff_ne]; omega
                      clear hst
                      go_wp2_with fail
                      go_roundw
                      case rel => exact ⟨k + 1, u, by omega, HUN.out.symm, by go_num, rfl, rfl, rfl, HPN.out, HBLk.out, HBUk.out⟩
                      case measure => simp [intOf]; omega
                · obtain rfl : k = zs.length := by omega
                  rw [← hcslen, roundK_all] at hu
                  rw [← hcslen] at hPk
                  have hnx := hPk.next (by omega)
                  have hud := hPk.1
                  have hgo2 : encR cs nb (remL (cp.drop (j + 1))) (m + 1) (nextC u) = encR cs nb (remL cp) 128 ⟨0, 72, nb, basicO cs⟩ := by rw [hu]; exact HGO.out
                  have HGO2 := Lib.hid hgo2
                  have HNX := Lib.hid hnx
                  have HBL2 := Lib.hid hbl
                  have HBU2 := Lib.hid (HBU.out.trans hbu)
                  clear hgo2 hnx hbl hbu hPk hu hbWk
                  go_wp2_with fail
                  go_roundw
                  case rel => exact ⟨j + 1, m + 1, nextC u, by omega, by go_num, by go_num, rfl, by unfold nextC; dsimp only; go_num, rfl, by omega, HNX.out, HGO2.out, fun z hz _ => by have := HUPJ.out z hz; omega, HBL2.out, HBU2.out⟩
                  case measure => simp [intOf]; omega
          · obtain rfl : j = cp.length := by omega
            rw [List.drop_length] at hgo
            have hfin : s = encR cs nb (remL cp) 128 ⟨0, 72, nb, basicO cs⟩ := hgo
            have hout : encN cs = s.out := by rw [HENC.out, ← hfin]
            have hbWk := HST.out.trans ((HBU6.out.trans hbu.1).below (B0 := w.heap.size) (Nat.le_refl _) (by omega))
            have cT := Lib.hid (bld_String _ _ _ _ hbl.bld hszw)
            have HOUT := Lib.hid hout
            have HBWk := Lib.hid hbWk
            clear hgo hfin hout hbWk hbl hbu hPI hge
            go_wp2_with fail
            refine cT.out.mono ?_
            rintro e w8 ⟨rfl, hb8⟩
            have hbE := HBWk.out.trans hb8
            go_wp2_with fail
            go_ret2
            exact ⟨hbE, .inr ⟨s.out, by rw [HOK.out, HOUT.out], rfl⟩⟩
end Go.Proofs.YtbonnmkkacplgaaGreatDoor
