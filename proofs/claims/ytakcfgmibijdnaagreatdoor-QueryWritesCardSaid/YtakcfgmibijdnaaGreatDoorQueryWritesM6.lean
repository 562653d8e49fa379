/- percent.Encode; the reference's Encode. -/
import Derived.Test.YtakcfgmibijdnaaGreatDoorQueryWritesM5
import Derived.Test.YtakcfgmibijdnaaGreatDoorQueryWritesM1
import Derived.Test.YtakcfgmibijdnaaGreatDoorQueryWritesM2
import Derived.Test.YtakcfgmibijdnaaGreatDoorQueryWritesM3
import Derived.Laws.OwnMore
import Derived.Deep.OwnRows
import Derived.Maps.AppendAt

namespace Go.Proofs.YtakcfgmibijdnaaGreatDoor
open Go.RowKit

/-- A slice of bytes, place by place. -/
def BytesAtSl (w : World) (a : Option Addr) (s : ByteArray) : Prop := ∀ j, j < s.size → ∃ b off, a = some ⟨b, off, none⟩ ∧ b < w.heap.size ∧ w.cell? ⟨b, off + j, none⟩ = some (.int .u8 ((byteAt s j).toNat : Int))
theorem BytesSl.places {w : World} {v : Value} {s : ByteArray} (h : BytesSl w v s) : ∃ a c, v = .slice a s.size c ∧ (0 < s.size → s.size ≤ c ∧ c ≤ maxLen) ∧ BytesAtSl w a s := by
  rcases h with ⟨h0, a, cap, rfl⟩ | ⟨b, off, cap, rfl, h1, h2, h3, h4⟩
  · exact ⟨a, cap, by rw [h0], fun h => by omega, fun j hj => by omega⟩
  · exact ⟨_, cap, rfl, fun _ => ⟨h1, h2⟩, fun j hj => ⟨b, off, rfl, h3, h4 j hj⟩⟩
theorem BytesAtSl.but {w0 w w' : World} {a : Option Addr} {s : ByteArray} {B b : Nat} (h : BytesAtSl w0 a s) (h0 : w0.heap.size ≤ b) (hb0 : Below w0.heap.size w0 w) (hb : ButB B b w w') (hB : w0.heap.size ≤ B) : BytesAtSl w' a s := by
  intro j hj
  obtain ⟨g, off, e, hg, hc⟩ := h j hj
  have hk : w'.heap[g]? = w0.heap[g]? := (hb.block g (by omega) (by omega)).trans (hb0.block g hg)
  exact ⟨g, off, e, Nat.lt_of_lt_of_le hg (Nat.le_trans hb0.size hb.size), (World.cell?_of_block hk).trans hc⟩
theorem BytesAtSl.below {w w' : World} {a : Option Addr} {s : ByteArray} (h : BytesAtSl w a s) (hb : Below w.heap.size w w') : BytesAtSl w' a s := by
  intro j hj
  obtain ⟨g, off, e, hg, hc⟩ := h j hj
  exact ⟨g, off, e, Nat.lt_of_lt_of_le hg hb.size, (hb.cell (p := ⟨g, off + j, none⟩) hg).trans hc⟩

def encTo (keep s : ByteArray) (i : Nat) : List UInt8 := encL keep (s.data.toList.take i)
theorem encTo_succ {keep s : ByteArray} {i : Nat} (h : i < s.size) : encTo keep s (i + 1) = encTo keep s i ++ encC keep (byteAt s i) := by
  have hl : s.data.toList.length = s.size := rfl
  have hb : byteAt s i = s.data.toList[i]'(by omega) := by unfold byteAt; rw [List.getD, List.getElem?_eq_getElem (by omega)]; rfl
  unfold encTo encL
  rw [List.take_succ_eq_append_getElem (by omega), List.flatMap_append, hb]
  simp
theorem encTo_len (keep s : ByteArray) (i : Nat) : (encTo keep s i).length ≤ 3 * i := by
  have h1 := encL_len keep (s.data.toList.take i)
  have h2 := List.length_take_le i s.data.toList
  unfold encTo; omega
def encS (keep s : ByteArray) : ByteArray := ofL (encL keep s.data.toList)
theorem encTo_all (keep s : ByteArray) : ofL (encTo keep s s.size) = encS keep s := by
  have hl : s.data.toList.length = s.size := rfl
  unfold encTo encS
  rw [← hl, List.take_length]
theorem keep_unres {keep : ByteArray} {c : UInt8} (h : unres c = true) : encC keep c = [c] := by unfold encC keepB; rw [h]; simp
theorem keep_perc {keep : ByteArray} {c : UInt8} (h : unres c = false) (h2 : c.toNat = 37) : encC keep c = escW c := by unfold encC keepB; rw [h, h2]; simp
theorem keep_has {keep : ByteArray} {c : UInt8} (h : unres c = false) (h2 : c.toNat ≠ 37) (h3 : hasB keep c = true) : encC keep c = [c] := by unfold encC keepB; rw [h, h3, decide_eq_true h2]; simp
theorem keep_not {keep : ByteArray} {c : UInt8} (h : unres c = false) (h3 : hasB keep c = false) : encC keep c = escW c := by unfold encC keepB; rw [h, h3]; simp

set_option maxHeartbeats 3200000 in
set_option maxRecDepth 100000 in
theorem percent_Encode (v : Value) (s keep : ByteArray) (w : World) (hs : s.size ≤ 16777216) (hv : BytesSl w v s) : Calls Tryz.prog 67 #[v, .string keep] w fun e w' => e = .returned (.string (encS keep s)) ∧ Below w.heap.size w w' := by
  obtain ⟨a, cap, rfl, hcap, hpl⟩ := hv.places
  go_enter Tryz.func67, Tryz.ntmps67
  have hnew : (w.alloc (.cells #[.pointer none, .slice none 0 0] 153)).heap[w.heap.size]? = some (.cells #[.pointer none, .slice none 0 0] 153) := heap_alloc_new w _
  have hbl : Bld (w.alloc (.cells #[.pointer none, .slice none 0 0] 153)) (w.heap.size + 1) w.heap.size [] := Bld.new rfl hnew (by omega)
  have hb0 : Below w.heap.size w (w.alloc (.cells #[.pointer none, .slice none 0 0] 153)) := (Below.refl _ _).alloc (Nat.le_refl _) _
  have hsz0 : (w.alloc (.cells #[.pointer none, .slice none 0 0] 153)).heap.size = w.heap.size + 1 := by simp
  clear hnew
  go_wp2_with fail
  generalize w.alloc (.cells #[.pointer none, .slice none 0 0] 153) = w2 at *
  go_loopw [10] (fun x wr => ∃ i : Nat, i ≤ s.size ∧ x = .int .i64 i ∧ Bld wr (w.heap.size + 1) w.heap.size (encTo keep s i) ∧ ButB (w.heap.size + 1) w.heap.size w2 wr) (fun x _ => s.size - (intOf x).toNat)
  case atStart => exact ⟨0, Nat.zero_le _, rfl, by unfold encTo encL; simpa using hbl, ButB.refl _ _ _⟩
  case round =>
    obtain ⟨i, hil, rfl, hbr, hbu⟩ := hrel
    have hsz := hbu.size
    by_cases hlt : i < s.size
    · obtain ⟨g, off, rfl, hg, hc⟩ := (hpl.but (Nat.le_refl _) hb0 hbu (by omega)) i hlt
      obtain ⟨hcap1, hcap2⟩ := hcap (by omega)
      unfold maxLen at hcap2
      have hstep := encTo_succ (keep := keep) hlt
      have hlen := encTo_len keep s i
      generalize encTo keep s i = done at *
      generalize byteAt s i = c at *
      have HS := Lib.hid hstep
      have cP := fun W => percent_Plain c W
      have hix := index_has keep c
      have hcall := fun W => Tryz.strings_IndexByte keep (c.toNat : Int) W
      have hcc : (((c.toNat : Int)).toNat.toUInt8) = c := by simp
      rw [hcc] at hcall
      have HC := Lib.hid hcall
      have cW := fun W => percent_written c W
      have hel := escW_len c
      have cB := Lib.hid (fun W hb hB => bld_WriteByte (w.heap.size + 1) w.heap.size done c W hb (by omega) hB)
      have hsz3 : (⟨(escW c).toArray⟩ : ByteArray).size = 3 := by show (escW c).toArray.size = 3; simpa using hel
      have hdl : (⟨(escW c).toArray⟩ : ByteArray).data.toList = escW c := rfl
      have cS := fun W hb hB => bld_WriteString (w.heap.size + 1) w.heap.size done ⟨(escW c).toArray⟩ W hb (by omega) hB
      rw [hdl, hsz3] at cS
      have CS := Lib.hid cS
      have CW := Lib.hid cW
      generalize Lib.indexByte keep.data.toList c = ix at *
      have HIX := Lib.hid hix
      have hyes : encC keep c = [c] → encTo keep s (i + 1) = done ++ [c] := fun h => by rw [HS.out, h]
      have hno : encC keep c = escW c → encTo keep s (i + 1) = done ++ escW c := fun h => by rw [HS.out, h]
      have HY := Lib.hid hyes
      have HN := Lib.hid hno
      clear hstep hix hcall hcc cS cW hsz3 hdl hel hyes hno
      cases hu : unres c with
      | true =>
        rw [hu] at cP
        have HK := Lib.hid (HY.out (keep_unres hu))
        clear hu
        go_wp2_with fail
        refine (cP _).mono ?_
        rintro e w3 ⟨rfl, rfl⟩
        go_wp2_with fail
        refine (cB.out _ hbr (by omega)).mono ?_
        rintro e w4 ⟨rfl, hbr4, hbu4⟩
        have hbu5 := hbu.trans hbu4
        rw [← HK.out] at hbr4
        clear hbr hbu hbu4
        go_wp2_with fail
        go_roundw
        case rel => exact ⟨i + 1, by omega, by go_num, hbr4, hbu5⟩
        case measure => simp [intOf]; omega
      | false =>
        rw [hu] at cP
        by_cases h37 : c.toNat = 37
        · have HK := Lib.hid (HN.out (keep_perc hu h37))
          have e1 : ((c.toNat : Int) != 37) = false := by rw [h37]; rfl
          clear hu h37
          go_wp2_with fail
          refine (cP _).mono ?_
          rintro e w3 ⟨rfl, rfl⟩
          go_wp2_with fail
          refine (CW.out _).mono ?_
          rintro e w3 ⟨rfl, hb3⟩
          have hbr3 := hbr.below hb3
          have hbu3 := hbu.trans (ButB.of_below (hb3.mono (by omega)))
          have hs3 := hb3.size
          go_wp2_with fail
          refine (CS.out _ hbr3 (by omega)).mono ?_
          rintro e w4 ⟨rfl, hbr4, hbu4⟩
          have hbu5 := hbu3.trans hbu4
          rw [← HK.out] at hbr4
          clear hbr hbu hbu4 hbu3 hb3 hbr3
          go_wp2_with fail
          go_roundw
          case rel => exact ⟨i + 1, by omega, by go_num, hbr4, hbu5⟩
          case measure => simp [intOf]; omega
        · have e1 : ((c.toNat : Int) != 37) = true := by rw [bne_iff_ne]; omega
          rcases HIX.out with ⟨k1, k2⟩ | ⟨k1, k2⟩
          · have HK := Lib.hid (HY.out (keep_has hu h37 k1))
            clear hu h37 k1
            go_wp2_with fail
            refine (cP _).mono ?_
            rintro e w3 ⟨rfl, rfl⟩
            go_wp2_with fail
            refine (HC.out _).mono ?_
            rintro e w3 ⟨rfl, rfl⟩
            go_wp2_with fail
            refine (cB.out _ hbr (by omega)).mono ?_
            rintro e w4 ⟨rfl, hbr4, hbu4⟩
            have hbu5 := hbu.trans hbu4
            rw [← HK.out] at hbr4
            clear hbr hbu hbu4
            go_wp2_with fail
            go_roundw
            case rel => exact ⟨i + 1, by omega, by go_num, hbr4, hbu5⟩
            case measure => simp [intOf]; omega
          · have HK := Lib.hid (HN.out (keep_not hu k1))
            clear hu h37 k1
            go_wp2_with fail
            refine (cP _).mono ?_
            rintro e w3 ⟨rfl, rfl⟩
            go_wp2_with fail
            refine (HC.out _).mono ?_
            rintro e w3 ⟨rfl, rfl⟩
            go_wp2_with fail
            refine (CW.out _).mono ?_
            rintro e w3 ⟨rfl, hb3⟩
            have hbr3 := hbr.below hb3
            have hbu3 := hbu.trans (ButB.of_below (hb3.mono (by omega)))
            have hs3 := hb3.size
            go_wp2_with fail
            refine (CS.out _ hbr3 (by omega)).mono ?_
            rintro e w4 ⟨rfl, hbr4, hbu4⟩
            have hbu5 := hbu3.trans hbu4
            rw [← HK.out] at hbr4
            clear hbr hbu hbu4 hbu3 hb3 hbr3
            go_wp2_with fail
            go_roundw
            case rel => exact ⟨i + 1, by omega, by go_num, hbr4, hbu5⟩
            case measure => simp [intOf]; omega
    · obtain rfl : i = s.size := by omega
      have hfin := Lib.hid (encTo_all keep s)
      have hb2r := hb0.trans (hbu.below (Nat.le_refl _) (by omega))
      go_wp2_with fail
      refine (bld_String _ _ _ _ hbr (by omega)).mono ?_
      rintro e w5 ⟨rfl, hb5⟩
      have hb6 := hb2r.trans hb5
      go_wp2_with fail
      go_ret
      exact ⟨ret_str hfin.out, hb6⟩

theorem cut_one (w : World) (b off i cap : Nat) (s : ByteArray) (hi : i < s.size) (hc : w.cell? ⟨b, off + i, none⟩ = some (.int .u8 ((byteAt s i).toNat : Int))) :
    (convert 56 9 (.slice (some ⟨b, off + i, none⟩) 1 cap)).run Tryz.prog w = .ok (.string (ofL [byteAt s i])) w := by
  have h := run_convert_bytes_back (P := Tryz.prog) w 56 9 5 ⟨b, off + i, none⟩ cap [byteAt s i] Tryz.underlying56 Tryz.underlying5 Tryz.underlying9 (fun j hj => by
    obtain rfl : j = 0 := by simpa using hj
    rw [Addr.add_lit, Nat.add_zero, hc]
    rfl)
  exact h

set_option maxHeartbeats 3200000 in
set_option maxRecDepth 100000 in
theorem ref_Encode (v : Value) (s keep : ByteArray) (w : World) (hs : s.size ≤ 16777216) (hk : keep.size ≤ 16777216) (hv : BytesSl w v s) : Calls Tryz.prog 69 #[v, .string keep] w fun e w' => e = .returned (.string (encS keep s)) ∧ Below w.heap.size w w' := by
  obtain ⟨a, cap, rfl, hcap, hpl⟩ := hv.places
  go_enter Tryz.func69, Tryz.ntmps69
  go_wp2_with fail
  go_loopw [5, 6] (fun v x wr => ∃ i : Nat, i ≤ s.size ∧ x = .int .i64 i ∧ v = .string (ofL (encTo keep s i)) ∧ Below w.heap.size w wr) (fun _ x _ => s.size - (intOf x).toNat)
  case atStart => exact ⟨0, Nat.zero_le _, rfl, rfl, Below.refl _ _⟩
  case round =>
    obtain ⟨i, hil, rfl, rfl, hbr⟩ := hrel
    by_cases hlt : i < s.size
    · obtain ⟨g, off, rfl, hg, hc⟩ := (hpl.below hbr) i hlt
      obtain ⟨hcap1, hcap2⟩ := hcap (by omega)
      unfold maxLen at hcap2
      have hcv := cut_one wr g off i (cap - i) s hlt hc
      have hstep := encTo_succ (keep := keep) hlt
      have hlen := encTo_len keep s i
      have hzd : (ofL (encTo keep s i)).size ≤ 50331648 := by rw [ofL_size]; omega
      generalize encTo keep s i = done at *
      generalize byteAt s i = c at *
      have HS := Lib.hid hstep
      have cP := fun W => ref_Plain c W
      have cH := Lib.hid (fun W => ref_Has keep c W (by omega))
      have cE := Lib.hid (fun W => ref_escape c W)
      have hez : (ofL (escW c)).size ≤ 3 := by rw [ofL_size, escW_len]; exact Nat.le_refl _
      have hoz : (ofL [c]).size ≤ 1 := by rw [ofL_size]; exact Nat.le_refl _
      have hyes : encC keep c = [c] → ofL done ++ ofL [c] = ofL (encTo keep s (i + 1)) := fun h => by rw [ofL_app, HS.out, h]
      have hno : encC keep c = escW c → ofL done ++ ofL (escW c) = ofL (encTo keep s (i + 1)) := fun h => by rw [ofL_app, HS.out, h]
      have HY := Lib.hid hyes
      have HN := Lib.hid hno
      generalize ofL done = od at *
      generalize ofL [c] = oc at *
      generalize ofL (escW c) = oe at *
      have hci : ¬ cap = i := by omega
      have t2 : (i : Int) + 1 ≤ (cap : Int) := by omega
      have t3 : i + 1 - i = 1 := by omega
      have ku := @keep_unres keep c
      have kp := @keep_perc keep c
      have kh := @keep_has keep c
      have kn := @keep_not keep c
      have KU := Lib.hid ku
      have KP := Lib.hid kp
      have KH := Lib.hid kh
      have KN := Lib.hid kn
      clear hstep hyes hno ku kp kh kn
      cases hu : unres c with
      | true =>
        rw [hu] at cP
        have HK := Lib.hid (HY.out (KU.out hu))
        clear hu
        go_wp2_with fail
        refine (cP _).mono ?_
        rintro e w3 ⟨rfl, rfl⟩
        go_wp2_with fail
        go_roundw
        case rel => exact ⟨i + 1, by omega, by go_num, congrArg Value.string HK.out, hbr⟩
        case measure => simp [intOf]; omega
      | false =>
        rw [hu] at cP
        by_cases h37 : c.toNat = 37
        · have HK := Lib.hid (HN.out (KP.out hu h37))
          have e1 : ((c.toNat : Int) != 37) = false := by rw [h37]; rfl
          clear hu h37
          go_wp2_with fail
          refine (cP _).mono ?_
          rintro e w3 ⟨rfl, rfl⟩
          go_wp2_with fail
          refine (cE.out _).mono ?_
          rintro e w3 ⟨rfl, q, rfl⟩
          have hbq := below_drewN hbr q
          go_wp2_with fail
          go_roundw
          case rel => exact ⟨i + 1, by omega, by go_num, congrArg Value.string HK.out, hbq⟩
          case measure => simp [intOf]; omega
        · have e1 : ((c.toNat : Int) != 37) = true := by rw [bne_iff_ne]; omega
          cases hh : hasB keep c with
          | true =>
            rw [hh] at cH
            have HK := Lib.hid (HY.out (KH.out hu h37 hh))
            clear hu h37 hh
            go_wp2_with fail
            refine (cP _).mono ?_
            rintro e w3 ⟨rfl, rfl⟩
            go_wp2_with fail
            refine (cH.out _).mono ?_
            rintro e w3 ⟨rfl, rfl⟩
            go_wp2_with fail
            go_roundw
            case rel => exact ⟨i + 1, by omega, by go_num, congrArg Value.string HK.out, hbr⟩
            case measure => simp [intOf]; omega
          | false =>
            rw [hh] at cH
            have HK := Lib.hid (HN.out (KN.out hu hh))
            clear hu h37 hh
            go_wp2_with fail
            refine (cP _).mono ?_
            rintro e w3 ⟨rfl, rfl⟩
            go_wp2_with fail
            refine (cH.out _).mono ?_
            rintro e w3 ⟨rfl, rfl⟩
            go_wp2_with fail
            refine (cE.out _).mono ?_
            rintro e w3 ⟨rfl, q, rfl⟩
            have hbq := below_drewN hbr q
            go_wp2_with fail
            go_roundw
            case rel => exact ⟨i + 1, by omega, by go_num, congrArg Value.string HK.out, hbq⟩
            case measure => simp [intOf]; omega
    · obtain rfl : i = s.size := by omega
      have hfin := Lib.hid (encTo_all keep s)
      go_wp2_with fail
      go_ret
      exact ⟨ret_str hfin.out, hbr⟩
end Go.Proofs.YtakcfgmibijdnaaGreatDoor

/- A slice of one-cell elements that is read as values. -/
namespace Go.Proofs.YtakcfgmibijdnaaGreatDoor
open Go.RowKit

/-- A slice of one-cell elements that reads as these values. -/
def RowSl (w : World) (a : Option Addr) (l : List Value) : Prop := ∀ i v, l[i]? = some v → ∃ b, a = some ⟨b, 0, none⟩ ∧ b < w.heap.size ∧ w.cell? ⟨b, i, none⟩ = some v
theorem row_sl {w : World} {base n : Nat} {e : TypeId} {v : Value} {l : List Value} (h : w.ownsRow base e 1 v n l) (hn : n = l.length) : ∃ a c, v = .slice a l.length c ∧ l.length ≤ c ∧ c ≤ maxLen ∧ RowSl w a l := by
  subst hn
  have h' := h
  rcases h.2 with ⟨e0, e1⟩ | ⟨g, cap, cur, e0, hg, hh, h1, h2, _⟩
  · refine ⟨none, 0, by rw [e0, e1], by omega, by unfold maxLen; omega, fun i c hc => ?_⟩
    have := (List.getElem?_eq_some_iff.1 hc).1
    omega
  · refine ⟨_, cap, e0, h1, h2, fun i c hc => ?_⟩
    have hlt := (List.getElem?_eq_some_iff.1 hc).1
    subst e0
    refine ⟨g, rfl, lt_of_block hh, ?_⟩
    rw [h'.cellAt i (by omega), hc]
theorem RowSl.below {w w' : World} {a : Option Addr} {l : List Value} (h : RowSl w a l) (hb : Below w.heap.size w w') : RowSl w' a l := by
  intro i v hv
  obtain ⟨b, e, hlt, h1⟩ := h i v hv
  exact ⟨b, e, Nat.lt_of_lt_of_le hlt hb.size, (hb.cell (p := ⟨b, i, none⟩) hlt).trans h1⟩
/-- .. where a newer row is written. -/
theorem RowSl.mid {w w1 w2 : World} {a : Option Addr} {l : List Value} {g : Nat} (h : RowSl w a l) (hb : Below w.heap.size w w1) (hg : w1.grownBy w2 (some g)) (hn : w.heap.size ≤ g) : RowSl w2 a l := by
  intro i v hv
  obtain ⟨b, e, hlt, h1⟩ := h i v hv
  have h2 := Nat.lt_of_lt_of_le hlt hb.size
  have hk := hg.block b h2 (fun e => by injection e with e; omega)
  exact ⟨b, e, Nat.lt_of_lt_of_le h2 hg.size, (World.cell?_of_block hk).trans ((hb.cell (p := ⟨b, i, none⟩) hlt).trans h1)⟩
end Go.Proofs.YtakcfgmibijdnaaGreatDoor

/- Items, in memory. -/
namespace Go.Proofs.YtakcfgmibijdnaaGreatDoor
open Go.RowKit

structure It where
  name : ByteArray
  value : ByteArray
  has : Bool
deriving DecidableEq

theorem info_item : (Tryz.prog.info? 47).map (fun i => (i.zero, i.size, i.bytes)) = some (some (.agg #[.string ByteArray.empty, .string ByteArray.empty, .bool false]), 3, 40) := by kernel_rfl

def itemC (x : It) : List Value := [.string x.name, .string x.value, .bool x.has]
def itemsV (l : List It) : List Value := l.flatMap itemC
theorem itemsV_len (l : List It) : (itemsV l).length = l.length * 3 := by
  induction l with
  | nil => rfl
  | cons p l ih =>
    unfold itemsV at ih ⊢
    rw [List.flatMap_cons, List.length_append, ih, List.length_cons]
    show 3 + _ = _
    omega
theorem itemsV_app (a b : List It) : itemsV (a ++ b) = itemsV a ++ itemsV b := by unfold itemsV; exact List.flatMap_append
theorem itemsV_at {l : List It} {i : Nat} {p : It} (h : l[i]? = some p) (j : Nat) (hj : j < 3) : (itemsV l)[i * 3 + j]? = (itemC p)[j]? := by
  induction l generalizing i with
  | nil => simp at h
  | cons q l ih =>
    cases i with
    | zero =>
      simp at h; subst h
      show (itemC q ++ itemsV l)[0 * 3 + j]? = _
      rw [List.getElem?_append_left (by show _ < 3; omega)]
      congr 1; omega
    | succ i =>
      simp at h
      show (itemC q ++ itemsV l)[(i + 1) * 3 + j]? = _
      rw [List.getElem?_append_right (by show 3 ≤ _; omega), ← ih h]
      congr 1
      show (i + 1) * 3 + j - 3 = _
      omega
theorem itemC_one (p : It) : ∀ u ∈ itemC p, u.oneCell' = true := by
  intro u hu
  unfold itemC at hu
  simp at hu
  rcases hu with rfl | rfl | rfl <;> rfl

def OwnI (w : World) (base : Nat) (v : Value) (l : List It) : Prop := w.ownsRow base 47 3 v l.length (itemsV l)
theorem OwnI.below {w w' : World} {base : Nat} {v : Value} {l : List It} (h : OwnI w base v l) (hb : Below w.heap.size w w') : OwnI w' base v l := ownsRow_below h hb
theorem OwnI.nil (w : World) (base : Nat) : OwnI w base (.slice none 0 0) [] := World.ownsRow_nil _ _ _ _
theorem OwnI.base' {w : World} {base base' : Nat} {v : Value} {l : List It} (h : OwnI w base v l) (hb : base' ≤ base) : OwnI w base' v l := ownsRow_base h hb
theorem OwnI.under {w0 w w' : World} {base : Nat} {v : Value} {l : List It} (h : OwnI w base v l) (hb : Below w0.heap.size w0 w) (hB : w0.heap.size ≤ base) (hg : w.grownBy w' v.ownBlock) : Below w0.heap.size w0 w' :=
  hb.grown hg hb.size (fun j hj => Nat.le_trans hB (World.ownsRow.lt h j hj).1)
theorem wpList_app_item {w : World} {ops : Array Oper} {rest : List Oper} {o : Oper} {a : Act} {Q : Exit → Act → World → Prop} (hgd : o.guard = none) (s x : Operand) (ho : o.op = .call { callee := .builtin .append, args := #[s, x], argTypes := #[35, 35] })
    (base : Nat) (v : Value) (l : List It) (hs : a.eval s = v) (hown : OwnI w base v l) (g c : Nat) (p : It) (hx : a.eval x = .slice (some ⟨g, 0, none⟩) 1 c) (hb : w.heap[g]? = some (.cells (itemC p).toArray 47 (0, 0)))
    (hl : l.length ≤ 1073741824) (hbase : base ≤ w.heap.size)
    (h : ∀ v' w', OwnI w' base v' (l ++ [p]) → w.grownBy w' v.ownBlock → wpList Tryz.prog ops Q rest (a.put o.dst v') w') : wpList Tryz.prog ops Q (o :: rest) a w := by
  obtain ⟨i, hi, hz, hsize, hby⟩ := info_parts info_item
  refine wpList_append_own _ hgd s x 35 ho base 47 i _ 3 40 Tryz.underlying35 hi hz hsize hby rfl (by decide) v _ _ hs hown _ 1 c (itemC p) hx rfl ?_ (itemC_one p) (by unfold maxLen; omega) (by omega) hbase ?_
  · intro j u hj
    rw [Addr.add_lit, Nat.zero_add, cell_of_row w g j _ _ _ hb, ← hj]
    simp
  · intro v' w' h1 h2 _
    refine h v' w' ?_ h2
    unfold OwnI
    rw [List.length_append, itemsV_app]
    have : itemsV [p] = itemC p := by unfold itemsV; simp
    rw [this]
    exact h1

theorem wpList_app_item_at {w : World} {ops : Array Oper} {rest : List Oper} {o : Oper} {a : Act} {Q : Exit → Act → World → Prop} (hgd : o.guard = none) (s x : Operand) (ho : o.op = .call { callee := .builtin .append, args := #[s, x], argTypes := #[35, 35] })
    (base : Nat) (v : Value) (l : List It) (hs : a.eval s = v) (hown : OwnI w base v l) (g c : Nat) (p : It) (hx : a.eval x = .slice (some ⟨g, 0, none⟩) 1 c) (hb : w.heap[g]? = some (.cells (itemC p).toArray 47 (0, 0)))
    (hl : l.length ≤ 1073741824) (hbase : base ≤ w.heap.size)
    (h : ∀ v' w', OwnI w' base v' (l ++ [p]) → w.grownBy w' v.ownBlock → (v'.ownBlock = v.ownBlock ∨ v'.ownBlock = some w.heap.size) → wpList Tryz.prog ops Q rest (a.put o.dst v') w') : wpList Tryz.prog ops Q (o :: rest) a w := by
  obtain ⟨i, hi, hz, hsize, hby⟩ := info_parts info_item
  refine wpList_append_own_at _ hgd s x 35 ho base 47 i _ 3 40 Tryz.underlying35 hi hz hsize hby rfl (by decide) v _ _ hs hown _ 1 c (itemC p) hx rfl ?_ (itemC_one p) (by unfold maxLen; omega) (by omega) hbase ?_
  · intro j u hj
    rw [Addr.add_lit, Nat.zero_add, cell_of_row w g j _ _ _ hb, ← hj]
    simp
  · intro v' w' h1 h2 _ h3
    refine h v' w' ?_ h2 h3
    unfold OwnI
    rw [List.length_append, itemsV_app]
    have : itemsV [p] = itemC p := by unfold itemsV; simp
    rw [this]
    exact h1
/-- A row that is read, beside a row of the call's own. -/
def Beside (pa : Option Addr) (v : Value) : Prop := ∀ b, pa = some ⟨b, 0, none⟩ → v.ownBlock ≠ some b
theorem RowSl.grown {w w2 : World} {pa : Option Addr} {l : List Value} {v : Value} (h : RowSl w pa l) (hg : w.grownBy w2 v.ownBlock) (hne : Beside pa v) : RowSl w2 pa l := by
  intro i x hx
  obtain ⟨b, e, hlt, h1⟩ := h i x hx
  have hk := hg.block b hlt (fun e' => hne b e e'.symm)
  exact ⟨b, e, Nat.lt_of_lt_of_le hlt hg.size, (World.cell?_of_block hk).trans h1⟩
theorem Beside.at {N : Nat} {pa : Option Addr} {v v' : Value} (h : Beside pa v) (hat : v'.ownBlock = v.ownBlock ∨ v'.ownBlock = some N) (hlt : ∀ b, pa = some ⟨b, 0, none⟩ → b < N) : Beside pa v' := by
  intro b hb e
  rcases hat with hat | hat
  · exact h b hb (hat ▸ e)
  · have := hlt b hb
    rw [hat] at e
    injection e with e
    omega
/-- A slice of items. -/
def ItemsSl (w : World) (a : Option Addr) (l : List It) : Prop := ∀ (i : Nat) (p : It), l[i]? = some p → ∃ b off, a = some ⟨b, off, none⟩ ∧ b < w.heap.size ∧
  w.cell? ⟨b, off + i * 3, none⟩ = some (.string p.name) ∧ w.cell? ⟨b, off + i * 3 + 1, none⟩ = some (.string p.value) ∧ w.cell? ⟨b, off + i * 3 + 2, none⟩ = some (.bool p.has)
theorem ItemsSl.below {w w' : World} {a : Option Addr} {l : List It} (h : ItemsSl w a l) (hb : Below w.heap.size w w') : ItemsSl w' a l := by
  intro i p hp
  obtain ⟨b, off, e, hlt, h1, h2, h3⟩ := h i p hp
  exact ⟨b, off, e, Nat.lt_of_lt_of_le hlt hb.size, (hb.cell (p := ⟨b, off + i * 3, none⟩) hlt).trans h1, (hb.cell (p := ⟨b, off + i * 3 + 1, none⟩) hlt).trans h2, (hb.cell (p := ⟨b, off + i * 3 + 2, none⟩) hlt).trans h3⟩
/-- Own items as a slice: where they lie. -/
def ItemsOwn (w : World) (a : Option Addr) (l : List It) : Prop := ∀ (i : Nat) (p : It), l[i]? = some p → ∃ b, a = some ⟨b, 0, none⟩ ∧ b < w.heap.size ∧
  w.cell? ⟨b, i * 3, none⟩ = some (.string p.name) ∧ w.cell? ⟨b, i * 3 + 1, none⟩ = some (.string p.value) ∧ w.cell? ⟨b, i * 3 + 2, none⟩ = some (.bool p.has)
theorem ItemsOwn.below {w w' : World} {a : Option Addr} {l : List It} (h : ItemsOwn w a l) (hb : Below w.heap.size w w') : ItemsOwn w' a l := by
  intro i p hp
  obtain ⟨b, e, hlt, h1, h2, h3⟩ := h i p hp
  exact ⟨b, e, Nat.lt_of_lt_of_le hlt hb.size, (hb.cell (p := ⟨b, i * 3, none⟩) hlt).trans h1, (hb.cell (p := ⟨b, i * 3 + 1, none⟩) hlt).trans h2, (hb.cell (p := ⟨b, i * 3 + 2, none⟩) hlt).trans h3⟩
theorem ItemsOwn.items {w : World} {a : Option Addr} {l : List It} (h : ItemsOwn w a l) : ItemsSl w a l := by
  intro i p hp
  obtain ⟨b, e, hlt, h1, h2, h3⟩ := h i p hp
  exact ⟨b, 0, e, hlt, by rw [Nat.zero_add]; exact h1, by rw [Nat.zero_add]; exact h2, by rw [Nat.zero_add]; exact h3⟩
theorem OwnI.sl {w : World} {base : Nat} {v : Value} {l : List It} (h : OwnI w base v l) : ∃ a c, v = .slice a l.length c ∧ l.length ≤ c ∧ c ≤ maxLen ∧ ItemsOwn w a l := by
  unfold OwnI at h
  rcases h.2 with ⟨e0, e1⟩ | ⟨g, cap, cur, e0, hg, hh, h1, h2, _⟩
  · refine ⟨none, 0, by rw [e0, e1], by omega, by unfold maxLen; omega, fun i p hp => ?_⟩
    have := (List.getElem?_eq_some_iff.1 hp).1
    omega
  · refine ⟨_, cap, e0, h1, h2, fun i p hp => ?_⟩
    subst e0
    have hc := h.cells (g := g) rfl
    have c0 := hc (i * 3 + 0) _ ((itemsV_at hp 0 (by omega)).trans rfl)
    have c1 := hc (i * 3 + 1) _ ((itemsV_at hp 1 (by omega)).trans rfl)
    have c2 := hc (i * 3 + 2) _ ((itemsV_at hp 2 (by omega)).trans rfl)
    simp only [Addr.add_lit, Nat.zero_add, Nat.add_zero] at c0 c1 c2
    exact ⟨g, rfl, lt_of_block hh, c0, c1, c2⟩
end Go.Proofs.YtakcfgmibijdnaaGreatDoor
