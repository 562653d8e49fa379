/- fold.Lower, fold.Same; the reference's Lower. -/
import Derived.Test.YteabhblbefglpaaDoorFreshLessM2
import Derived.Test.YteabhblbefglpaaDoorFreshLessM1
import Derived.Test.YteabhblbefglpaaDoorFreshLessM3
import Derived.Lib.SlTrimSet
import Derived.Test.YteabhblbefglpaaDoorShelf
import Derived.Shelf.Strings.SlTrimAscii

namespace Go.Proofs.YteabhblbefglpaaDoor
open Go.RowKit

theorem ret_low {s t : ByteArray} (h : t = lowerS s) : Ending.returned (.string t) = .returned (.string (lowerS s)) := by rw [h]

set_option maxHeartbeats 1600000 in
theorem fold_Lower (s : ByteArray) (w : World) (hs : s.size ≤ 140737488351232) : Calls Tryd.prog 96 #[.string s] w fun e w' => e = .returned (.string (lowerS s)) ∧ Below w.heap.size w w' := by
  go_enter Tryd.func96, Tryd.ntmps96
  go_wp2_with ((with_reducible refine wpList_bytes (o := ⟨some 7, _, _, _, _, _⟩) rfl 9 23 5 _ rfl s rfl Tryd.underlying9 Tryd.underlying23 Tryd.underlying5 ?_); intro cap w1 hcap hB hb1 hsz1)
  go_loopw [10] (fun a wr => ∃ i : Nat, i ≤ s.size ∧ a = .int .i64 i ∧ BytesAt wr w.heap.size (lowTo s i) ∧ Below w.heap.size w wr) (fun a _ => s.size - (intOf a).toNat)
  case atStart => exact ⟨0, Nat.zero_le _, rfl, by rw [lowTo_zero]; exact hB, hb1⟩
  case round =>
    obtain ⟨i, hil, rfl, hBr, hbr⟩ := hrel
    by_cases hlt : i < s.size
    · have hc := hBr.cell (k := i) (by rw [lowTo_len]; exact hlt)
      have hfz := hBr.frozen (k := i) (by rw [lowTo_len]; exact hlt)
      rw [lowTo_at hlt] at hc
      have hst := fun b => hBr.store (k := i) (by rw [lowTo_len]; exact hlt) b
      have hset := lowTo_set hlt
      have hkeep := lowTo_keep hlt
      have hnat := lowerB_nat (byteAt s i)
      have hdef : lowerB (byteAt s i) = if 65 ≤ (byteAt s i).toNat ∧ (byteAt s i).toNat ≤ 90 then byteAt s i + 32 else byteAt s i := rfl
      have hb := (byteAt s i).toNat_lt
      generalize byteAt s i = c at *
      by_cases hc1 : 65 ≤ c.toNat
      · by_cases hc2 : c.toNat ≤ 90
        · have hor := or_letter c.toNat hc1 hc2
          have hv : (lowerB c).toNat = c.toNat + 32 := by rw [hnat]; unfold smallN; rw [if_pos ⟨hc1, hc2⟩]
          have h2 := hst (lowerB c)
          rw [hset, hv] at h2
          have H2 := Lib.hid h2
          clear hst hset hkeep hnat hdef hv h2 hBr
          go_wp2_with fail
          go_roundw
          case rel => exact ⟨i + 1, by omega, by go_num, H2.out, hbr.setCell (Nat.le_refl _) _⟩
          case measure => simp [intOf]; omega
        · have hk := hkeep (by rw [hdef, if_neg (by omega)])
          have h2 : BytesAt wr w.heap.size (lowTo s (i + 1)) := by rw [hk]; exact hBr
          have H2 := Lib.hid h2
          clear hst hset hkeep hnat hdef hk h2 hBr
          go_wp2_with fail
          go_roundw
          case rel => exact ⟨i + 1, by omega, by go_num, H2.out, hbr⟩
          case measure => simp [intOf]; omega
      · have hk := hkeep (by rw [hdef, if_neg (by omega)])
        have h2 : BytesAt wr w.heap.size (lowTo s (i + 1)) := by rw [hk]; exact hBr
        have H2 := Lib.hid h2
        clear hst hset hkeep hnat hdef hk h2 hBr
        go_wp2_with fail
        go_roundw
        case rel => exact ⟨i + 1, by omega, by go_num, H2.out, hbr⟩
        case measure => simp [intOf]; omega
    · obtain rfl : i = s.size := by omega
      have hcv := run_back wr 23 9 5 w.heap.size cap _ Tryd.underlying23 Tryd.underlying5 Tryd.underlying9 hBr
      rw [lowTo_len, lowTo_all] at hcv
      clear hBr
      have hcv2 : (convert 23 9 (.slice (some ⟨w.heap.size, 0, none⟩) s.size cap)).run Tryd.prog wr = .ok (.string (lowerS s)) wr := hcv
      clear hcv
      go_wp2_with fail
      go_ret
      exact ⟨rfl, hbr⟩

theorem ref_Small' (c : UInt8) (w : World) : Calls Tryd.prog 121 #[.int .u8 (c.toNat : Int)] w fun e w' => e = .returned (.int .u8 ((lowerB c).toNat : Int)) ∧ w = w' :=
  (ref_Small c.toNat c.toNat_lt w).mono fun _ _ ⟨a, b⟩ => ⟨by rw [a, lowerB_nat], b⟩

theorem one_sl (w : World) (b : UInt8) : BytesSl (w.alloc (.cells #[byteV b] 5)) (.slice (some ⟨w.heap.size, 0, none⟩) 1 1) ⟨#[b]⟩ :=
  BytesSl.lit w [b] _ 1 rfl rfl (by simp)

set_option maxHeartbeats 1600000 in
theorem ref_Lower (s : ByteArray) (w : World) (hs : s.size ≤ 16777216) : Calls Tryd.prog 83 #[.string s] w fun e w' => e = .returned (.string (lowerS s)) ∧ Below w.heap.size w w' := by
  go_enter Tryd.func83, Tryd.ntmps83
  go_wp2_with fail
  go_loopw [3, 4] (fun v a wr => ∃ i : Nat, i ≤ s.size ∧ a = .int .i64 i ∧ OwnB wr w.heap.size v (lowerL (s.data.toList.take i)) ∧ Below w.heap.size w wr) (fun _ a _ => s.size - (intOf a).toNat)
  case atStart => exact ⟨0, Nat.zero_le _, rfl, OwnB.lit w [] #[] 0 rfl rfl (Nat.le_refl _) (by simp), (Below.refl _ _).alloc (Nat.le_refl _) _⟩
  case round =>
    rename_i u3
    obtain ⟨i, hil, rfl, hown, hbr⟩ := hrel
    have hl : s.data.toList.length = s.size := rfl
    by_cases hlt : i < s.size
    · have hb : byteAt s i = s.data.toList[i]'(by omega) := by unfold byteAt; rw [List.getD, List.getElem?_eq_getElem (by omega)]; rfl
      have hst : lowerL (s.data.toList.take i) ++ [lowerB (byteAt s i)] = lowerL (s.data.toList.take (i + 1)) := by
        rw [hb, List.take_succ_eq_append_getElem (by omega)]; simp [lowerL]
      have hlen : (lowerL (s.data.toList.take i)).length = i := by simp [lowerL]; omega
      generalize hd : lowerL (s.data.toList.take i) = done at *
      have HST := Lib.hid hst
      have hbk : s[i] = byteAt s i := by simp [byteAt, List.getD, hlt]; rfl
      have HBK := Lib.hid hbk
      clear hst hd hb hbk
      go_wp2_with fail
      rw [HBK.out]
      generalize byteAt s i = c at *
      refine (ref_Small' c _).mono ?_
      rintro e w2 ⟨rfl, rfl⟩
      generalize lowerB c = d at *
      have hbf : Below wr.heap.size wr (wr.alloc (.cells #[byteV d] 5)) := (Below.refl _ _).alloc (Nat.le_refl _) _
      have hown2 := hown.below hbf
      have hbr2 := Bt hbr hbf
      clear hown hbf
      have hy := one_sl wr d
      go_wp2_with (at_builtin; refine wpList_app_bytes rfl _ _ rfl w.heap.size _ _ rfl hown2 _ ⟨#[d]⟩ rfl hy (by rw [hlen]; show i + 1 ≤ _; omega) hbr2.size ?_)
      intro v3 w3 hown3 hgr
      have hb3 := hown2.under hbr2 (Nat.le_refl _) hgr
      have ht : done ++ (⟨#[d]⟩ : ByteArray).data.toList = lowerL (s.data.toList.take (i + 1)) := HST.out
      rw [ht] at hown3
      clear ht hgr hown2 hy hbr2
      go_wp2_with fail
      go_roundw
      case rel => exact ⟨i + 1, by omega, by go_num, hown3, hb3⟩
      case measure => simp [intOf]; omega
    · obtain rfl : i = s.size := by omega
      rw [← hl, List.take_length] at hown
      have hcv : (convert 23 9 u3).run Tryd.prog wr = .ok (.string (lowerS s)) wr := hown.conv
      clear hown
      go_wp2_with fail
      go_ret
      exact ⟨rfl, hbr⟩
end Go.Proofs.YteabhblbefglpaaDoor

/- fresh.directive. -/
namespace Go.Proofs.YteabhblbefglpaaDoor
open Go.RowKit

theorem u8_is' {c : UInt8} {n : Nat} (hn : n < 256) : ((c.toNat : Int) == (n : Int)) = decide (c = UInt8.ofNat n) := by
  by_cases h : c = UInt8.ofNat n
  · have := u8_eqN hn h
    rw [decide_eq_true h]
    simpa [bne] using this
  · have := u8_neN hn h
    rw [decide_eq_false h]
    simpa [bne] using this
def unq (v : ByteArray) : ByteArray := v.extract 1 (v.size - 1)
def markS : ByteArray := ⟨#[34]⟩
def quoP (v : ByteArray) : Bool := decide (2 ≤ v.size) && (Lib.hasPrefix v.data.toList markS.data.toList && (Lib.hasSuffix v.data.toList markS.data.toList && !(hasB (unq v) 34 || hasB (unq v) 92)))
/-- The directive that a part is. -/
def dirP (s : ByteArray) : Option It :=
  if tokOk (cutN 61 s).data.toList = true then
    if cutH 61 s = true then
      if tokOk (cutV 61 s).data.toList = true then some ⟨lowerS (cutN 61 s), cutV 61 s, true⟩
      else if quoP (cutV 61 s) = true then some ⟨lowerS (cutN 61 s), unq (cutV 61 s), true⟩ else none
    else some ⟨lowerS (cutN 61 s), cutV 61 s, false⟩
  else none
theorem dirP_bad {s : ByteArray} (h : tokOk (cutN 61 s).data.toList = false) : dirP s = none := by unfold dirP; rw [if_neg (by rw [h]; decide)]
theorem dirP_name {s : ByteArray} (h : tokOk (cutN 61 s).data.toList = true) (h2 : cutH 61 s = false) : dirP s = some ⟨lowerS (cutN 61 s), cutV 61 s, false⟩ := by unfold dirP; rw [if_pos h, if_neg (by rw [h2]; decide)]
theorem dirP_tok {s : ByteArray} (h : tokOk (cutN 61 s).data.toList = true) (h2 : cutH 61 s = true) (h3 : tokOk (cutV 61 s).data.toList = true) : dirP s = some ⟨lowerS (cutN 61 s), cutV 61 s, true⟩ := by unfold dirP; rw [if_pos h, if_pos h2, if_pos h3]
theorem dirP_quo {s : ByteArray} (h : tokOk (cutN 61 s).data.toList = true) (h2 : cutH 61 s = true) (h3 : tokOk (cutV 61 s).data.toList = false) : dirP s = if quoP (cutV 61 s) = true then some ⟨lowerS (cutN 61 s), unq (cutV 61 s), true⟩ else none := by unfold dirP; rw [if_pos h, if_pos h2, if_neg (by rw [h3]; decide)]
theorem quoP_short {v : ByteArray} (h : ¬ 2 ≤ v.size) : quoP v = false := by unfold quoP; rw [decide_eq_false h]; rfl
theorem quoP_pre {v : ByteArray} (h : Lib.hasPrefix v.data.toList markS.data.toList = false) : quoP v = false := by unfold quoP; rw [h]; simp
theorem quoP_suf {v : ByteArray} (h : Lib.hasSuffix v.data.toList markS.data.toList = false) : quoP v = false := by unfold quoP; rw [h]; simp
theorem quoP_is {v : ByteArray} (h0 : 2 ≤ v.size) (h : Lib.hasPrefix v.data.toList markS.data.toList = true) (h2 : Lib.hasSuffix v.data.toList markS.data.toList = true) : quoP v = !(hasB (unq v) 34 || hasB (unq v) 92) := by unfold quoP; rw [h, h2, decide_eq_true h0]; rfl
theorem quoP_has {v : ByteArray} {c : UInt8} {k : Nat} (hk : k < (unq v).size) (h : byteAt (unq v) k = c) (hc : c = 34 ∨ c = 92) : (!(hasB (unq v) 34 || hasB (unq v) 92)) = false := by
  rcases hc with rfl | rfl
  · rw [hasB_yes hk h]; rfl
  · rw [hasB_yes hk h]; simp
theorem quoP_not {v : ByteArray} (h : ∀ j, j < (unq v).size → byteAt (unq v) j ≠ 34 ∧ byteAt (unq v) j ≠ 92) : (!(hasB (unq v) 34 || hasB (unq v) 92)) = true := by
  rw [hasB_no fun j hj => (h j hj).1, hasB_no fun j hj => (h j hj).2]; rfl
def DirPost (s : ByteArray) (w : World) (e : Ending) (w' : World) : Prop := Below w.heap.size w w' ∧ ((∃ x : It, dirP s = some x ∧ e = .returned (.tuple #[.agg #[.string x.name, .string x.value, .bool x.has], .bool true])) ∨ (dirP s = none ∧ e = .returned (.tuple #[.agg #[.string ⟨#[]⟩, .string ⟨#[]⟩, .bool false], .bool false])))
set_option maxHeartbeats 6400000 in
set_option maxRecDepth 100000 in
theorem fresh_directive (s : ByteArray) (w : World) (hs : s.size ≤ 16777216) : Calls Tryd.prog 62 #[.string s] w (DirPost s w) := by
  have hz1 : ItemAt (w.alloc (.cells #[.string ⟨#[]⟩, .string ⟨#[]⟩, .bool false] 94)) w.heap.size ⟨#[]⟩ ⟨#[]⟩ false := ItemAt.new
  have hb1 : Below w.heap.size w (w.alloc (.cells #[.string ⟨#[]⟩, .string ⟨#[]⟩, .bool false] 94)) := (Below.refl _ _).alloc (Nat.le_refl _) _
  have hN := cutN_size 61 s
  have hV := cutV_size 61 s
  have cC := Lib.hid (fun W => strings_Cut1 s 61 W hs)
  have cT := Lib.hid (fun W => media_Token (cutN 61 s) W (by omega))
  have cT2 := Lib.hid (fun W => media_Token (cutV 61 s) W (by omega))
  have cL := Lib.hid (fun W => fold_Lower (cutN 61 s) W (by omega))
  have H1 := Lib.hid (@dirP_bad s)
  have H2 := Lib.hid (@dirP_name s)
  have H3 := Lib.hid (@dirP_tok s)
  have H4 := Lib.hid (@dirP_quo s)
  generalize cutN 61 s = nm at *
  generalize cutV 61 s = vl at *
  generalize cutH 61 s = hs0 at *
  generalize lowerS nm = low at *
  go_enter Tryd.func62, Tryd.ntmps62
  go_wp2_with fail
  refine (cC.out _).mono ?_
  rintro e w2 ⟨rfl, q, rfl⟩
  have hz2 := hz1.drewN q
  have hb2 := below_drewN hb1 q
  have cT' := Lib.hid (cT.out (World.drewN (w.alloc (.cells #[.string ⟨#[]⟩, .string ⟨#[]⟩, .bool false] 94)) q))
  clear hz1 hb1 cC cT
  go_wp2_with fail
  refine cT'.out.mono ?_
  rintro e w3 ⟨rfl, hk⟩
  have hz3 := hz2.below hk
  have hb3 := Bt hb2 hk
  clear hz2 hb2 hk cT'
  cases hok : tokOk nm.data.toList with
  | false =>
    have HN := Lib.hid (H1.out hok)
    clear hok
    go_wp2_with (refine wpList_store_item (o := ⟨none, _, _, _, _, _⟩) rfl _ _ rfl w.heap.size ⟨#[]⟩ ⟨#[]⟩ false rfl rfl ⟨#[]⟩ ⟨#[]⟩ false hz3 ?_; intro hst)
    (try simp only [Exit.inBlock, Exit.then])
    refine bodyPost_ret (results_item rfl rfl hst) rfl ?_
    exact ⟨below_setRowI hb3 (Nat.le_refl _) _, .inr ⟨HN.out, rfl⟩⟩
  | true =>
    have hgo := H4.out hok
    have hname := H2.out hok
    have htok := H3.out hok
    have HG := Lib.hid hgo
    have HNM := Lib.hid hname
    have HTK := Lib.hid htok
    clear hok H1 H2 H3 H4 hgo hname htok
    go_wp2_with fail
    refine (cL.out _).mono ?_
    rintro e w4 ⟨rfl, hk⟩
    have hz4 := hz3.below hk
    have hb4 := Bt hb3 hk
    clear hz3 hb3 hk cL
    cases hs0 with
    | false =>
      have HN := Lib.hid (HNM.out rfl)
      have hx5 := hz4.set low vl false
      have hb5 := below_setRowI hb4 (Nat.le_refl _) #[.string low, .string vl, .bool false]
      have hld := hx5.load
      obtain ⟨k0, k1, k2⟩ := hx5.cells
      go_wp2_with (first | (refine wpList_store_item (o := ⟨none, _, _, _, _, _⟩) rfl _ _ rfl w.heap.size low vl false rfl rfl ⟨#[]⟩ ⟨#[]⟩ false hz4 ?_; intro hst0) | (refine wpList_store_item (o := ⟨none, _, _, _, _, _⟩) rfl _ _ rfl w.heap.size low vl false rfl rfl low vl false hx5 ?_; intro hst))
      (try simp only [Exit.inBlock, Exit.then])
      refine bodyPost_ret (results_item rfl rfl hst) rfl ?_
      exact ⟨below_setRowI hb5 (Nat.le_refl _) _, .inl ⟨_, HN.out, rfl⟩⟩
    | true =>
      have HQ := Lib.hid (HG.out rfl)
      have HT := Lib.hid (HTK.out rfl)
      have hx5 := hz4.set low vl true
      have hb5 := below_setRowI hb4 (Nat.le_refl _) #[.string low, .string vl, .bool true]
      clear HG HNM HTK
      go_wp2_with (refine wpList_store_item (o := ⟨none, _, _, _, _, _⟩) rfl _ _ rfl w.heap.size low vl true rfl rfl ⟨#[]⟩ ⟨#[]⟩ false hz4 ?_; intro hst0)
      clear hst0 hz4 hb4
      have cT' := Lib.hid (cT2.out (w4.setRow w.heap.size #[.string low, .string vl, .bool true]))
      refine cT'.out.mono ?_
      rintro e w6 ⟨rfl, hk⟩
      have hx6 := hx5.below hk
      have hb6 := Bt hb5 hk
      clear hx5 hb5 hk cT' cT2
      cases hok : tokOk vl.data.toList with
      | true =>
        have HN := Lib.hid (HT.out hok)
        have hld := hx6.load
        obtain ⟨k0, k1, k2⟩ := hx6.cells
        clear hok HQ HT
        go_wp2_with (refine wpList_store_item (o := ⟨none, _, _, _, _, _⟩) rfl _ _ rfl w.heap.size low vl true rfl rfl low vl true hx6 ?_; intro hst)
        (try simp only [Exit.inBlock, Exit.then])
        refine bodyPost_ret (results_item rfl rfl hst) rfl ?_
        exact ⟨below_setRowI hb6 (Nat.le_refl _) _, .inl ⟨_, HN.out, rfl⟩⟩
      | false =>
        have hq := HQ.out hok
        have HQ2 := Lib.hid hq
        clear hok HQ HT hq
        by_cases h2 : 2 ≤ vl.size
        case neg =>
          have HN := Lib.hid (HQ2.out.trans (if_neg (by rw [quoP_short h2]; decide)))
          have h2I : (vl.size : Int) < 2 := by omega
          clear h2
          go_wp2_with (refine wpList_store_item (o := ⟨none, _, _, _, _, _⟩) rfl _ _ rfl w.heap.size ⟨#[]⟩ ⟨#[]⟩ false rfl rfl low vl true hx6 ?_; intro hst)
          (try simp only [Exit.inBlock, Exit.then])
          refine bodyPost_ret (results_item rfl rfl hst) rfl ?_
          exact ⟨below_setRowI hb6 (Nat.le_refl _) _, .inr ⟨HN.out, rfl⟩⟩
        have h2I : ¬ (vl.size : Int) < 2 := by omega
        have cP := Lib.hid (fun W => Tryd.strings_HasPrefix vl ⟨#[34]⟩ W)
        have cS := Lib.hid (fun W => Tryd.strings_HasSuffix vl ⟨#[34]⟩ W (by omega))
        go_wp2_with fail
        refine (cP.out _).mono ?_
        rintro e w7 ⟨rfl, rfl⟩
        cases hp : Lib.hasPrefix vl.data.toList (⟨#[34]⟩ : ByteArray).data.toList with
        | false =>
          have HN := Lib.hid (HQ2.out.trans (if_neg (by rw [quoP_pre hp]; decide)))
          clear hp cP cS
          go_wp2_with (refine wpList_store_item (o := ⟨none, _, _, _, _, _⟩) rfl _ _ rfl w.heap.size ⟨#[]⟩ ⟨#[]⟩ false rfl rfl low vl true hx6 ?_; intro hst)
          (try simp only [Exit.inBlock, Exit.then])
          refine bodyPost_ret (results_item rfl rfl hst) rfl ?_
          exact ⟨below_setRowI hb6 (Nat.le_refl _) _, .inr ⟨HN.out, rfl⟩⟩
        | true =>
          go_wp2_with fail
          refine (cS.out _).mono ?_
          rintro e w7 ⟨rfl, rfl⟩
          cases hf : Lib.hasSuffix vl.data.toList (⟨#[34]⟩ : ByteArray).data.toList with
          | false =>
            have HN := Lib.hid (HQ2.out.trans (if_neg (by rw [quoP_suf hf]; decide)))
            clear hp hf cP cS
            go_wp2_with (refine wpList_store_item (o := ⟨none, _, _, _, _, _⟩) rfl _ _ rfl w.heap.size ⟨#[]⟩ ⟨#[]⟩ false rfl rfl low vl true hx6 ?_; intro hst)
            (try simp only [Exit.inBlock, Exit.then])
            refine bodyPost_ret (results_item rfl rfl hst) rfl ?_
            exact ⟨below_setRowI hb6 (Nat.le_refl _) _, .inr ⟨HN.out, rfl⟩⟩
          | true =>
            have hqq := quoP_is h2 hp hf
            have hq3 := HQ2.out
            rw [hqq] at hq3
            have HQ3 := Lib.hid hq3
            have hyes := fun h => @quoP_not vl h
            have hno := fun c k h1 h2 h3 => @quoP_has vl c k h1 h2 h3
            have HYES := Lib.hid hyes
            have HNO := Lib.hid hno
            have hu : unq vl = vl.extract 1 (vl.size - 1) := rfl
            have huz : (vl.extract 1 (vl.size - 1)).size ≤ 16777216 := by rw [ByteArray.size_extract]; omega
            rw [hu] at HQ3 HYES HNO
            have g1 := hx6.frozen 1
            obtain ⟨k0, k1, k2⟩ := hx6.cells
            have z1 : (1 : Int) ≤ (vl.size : Int) - 1 := by omega
            have z2 : (vl.size : Int) - 1 ≤ (vl.size : Int) := by omega
            have z3 : ((vl.size : Int) - 1).toNat = vl.size - 1 := by omega
            have hx7 := hx6.setValue (vl.extract 1 (vl.size - 1))
            have hb7 := hb6.setCell (show w.heap.size ≤ (⟨w.heap.size, 1, none⟩ : Addr).block from Nat.le_refl _) (.string (vl.extract 1 (vl.size - 1)))
            have y1 := hx7.cells.2.1
            clear hp hf cP cS hqq hq3 hyes hno hu HQ2 hx6 hb6
            generalize (!(hasB (vl.extract 1 (vl.size - 1)) 34 || hasB (vl.extract 1 (vl.size - 1)) 92)) = res at *
            go_wp2_with ((with_reducible refine wpList_bytes (o := ⟨some 53, _, _, _, _, _⟩) rfl 9 23 5 _ rfl (vl.extract 1 (vl.size - 1)) rfl Tryd.underlying9 Tryd.underlying23 Tryd.underlying5 ?_); intro cap w8 hcap hB hb8 hsz8)
            have huz2 : (vl.extract 1 (vl.size - 1)).size = vl.size - 1 - 1 := by rw [ByteArray.size_extract]; omega
            generalize vl.extract 1 (vl.size - 1) = u at *
            rw [← huz2]
            clear huz2
            have hB' : BytesAt w8 w7.heap.size u.data.toList := by simpa using hB
            have hx8 := hx7.below hb8
            have hb9 := Bt hb7 hb8
            have HRY := Lib.hid (fun h => HQ3.out.trans (if_pos (HYES.out h)))
            have HRN := Lib.hid (fun c k h1 h2 h3 => HQ3.out.trans (if_neg (fun h => by rw [HNO.out c k h1 h2 h3] at h; cases h)))
            clear HQ3 HYES HNO hx7 hb7 hb8 hsz8 hcap
            go_loopw [55] (fun a wr => ∃ i : Nat, i ≤ u.size ∧ a = .int .i64 i ∧ (∀ j, j < i → byteAt u j ≠ 34 ∧ byteAt u j ≠ 92) ∧ w8 = wr) (fun a _ => u.size - (intOf a).toNat)
            case atStart => exact ⟨0, Nat.zero_le _, rfl, fun j hj => by omega, rfl⟩
            case round =>
              obtain ⟨i, hil, rfl, hall, rfl⟩ := hrel
              have HA := Lib.hid hall
              clear hall
              by_cases hlt : i < u.size
              · have hc := hB'.byte hlt
                have d1 : (((byteAt u i).toNat : Int) == 34) = decide (byteAt u i = 34) := u8_is' (n := 34) (by decide)
                have d2 : (((byteAt u i).toNat : Int) == 92) = decide (byteAt u i = 92) := u8_is' (n := 92) (by decide)
                have hn := fun c h2 h3 => HRN.out c i hlt h2 h3
                have hst : byteAt u i ≠ 34 → byteAt u i ≠ 92 → ∀ j, j < i + 1 → byteAt u j ≠ 34 ∧ byteAt u j ≠ 92 := fun h1 h2 j hj => by
                  by_cases hji : j = i
                  · subst hji; exact ⟨h1, h2⟩
                  · exact HA.out j (by omega)
                generalize byteAt u i = c at *
                have HST := Lib.hid hst
                have HNN := Lib.hid hn
                clear hst hn
                by_cases h34 : c = 34
                · have HN := Lib.hid (HNN.out c rfl (.inl h34))
                  rw [decide_eq_true h34] at d1
                  clear h34 d2 HNN HST
                  go_wp2_with (refine wpList_store_item (o := ⟨none, _, _, _, _, _⟩) rfl _ _ rfl w.heap.size ⟨#[]⟩ ⟨#[]⟩ false rfl rfl low u true hx8 ?_; intro hst)
                  (try simp only [Exit.inBlock, Exit.then])
                  refine bodyPost_ret (results_item rfl rfl hst) rfl ?_
                  exact ⟨below_setRowI hb9 (Nat.le_refl _) _, .inr ⟨HN.out, rfl⟩⟩
                · rw [decide_eq_false h34] at d1
                  by_cases h92 : c = 92
                  · have HN := Lib.hid (HNN.out c rfl (.inr h92))
                    rw [decide_eq_true h92] at d2
                    clear h34 h92 HNN HST
                    go_wp2_with (refine wpList_store_item (o := ⟨none, _, _, _, _, _⟩) rfl _ _ rfl w.heap.size ⟨#[]⟩ ⟨#[]⟩ false rfl rfl low u true hx8 ?_; intro hst)
                    (try simp only [Exit.inBlock, Exit.then])
                    refine bodyPost_ret (results_item rfl rfl hst) rfl ?_
                    exact ⟨below_setRowI hb9 (Nat.le_refl _) _, .inr ⟨HN.out, rfl⟩⟩
                  · have HX := Lib.hid (HST.out h34 h92)
                    rw [decide_eq_false h92] at d2
                    clear h34 h92 HNN HST
                    go_wp2_with fail
                    go_roundw
                    case rel => exact ⟨i + 1, by omega, by go_num, HX.out, by first | rfl | trivial⟩
                    case measure => simp [intOf]; omega
              · obtain rfl : i = u.size := by omega
                have HN := Lib.hid (HRY.out HA.out)
                have hld := hx8.load
                obtain ⟨k0, k1, k2⟩ := hx8.cells
                go_wp2_with (refine wpList_store_item (o := ⟨none, _, _, _, _, _⟩) rfl _ _ rfl w.heap.size low u true rfl rfl low u true hx8 ?_; intro hst)
                (try simp only [Exit.inBlock, Exit.then])
                refine bodyPost_ret (results_item rfl rfl hst) rfl ?_
                exact ⟨below_setRowI hb9 (Nat.le_refl _) _, .inl ⟨_, HN.out, rfl⟩⟩
end Go.Proofs.YteabhblbefglpaaDoor

/- Plain facts: a text without blanks around it. -/
namespace Go.Proofs.YteabhblbefglpaaDoor
open Go.RowKit

def blanks : ByteArray := ⟨#[32, 9, 10, 13]⟩
theorem blanks_has (c : UInt8) : ([32, 9, 10, 13] : List UInt8).contains c = hasB blanks c := by
  have : ∀ n : Fin 256, ([32, 9, 10, 13] : List UInt8).contains (UInt8.ofNat n.1) = hasB blanks (UInt8.ofNat n.1) := by decide +kernel
  have h := this ⟨c.toNat, c.toNat_lt⟩
  simpa using h
/-- A text without blanks around it. -/
def trimS (s : ByteArray) : ByteArray := ⟨(Lib.trimS s.data.toList [32, 9, 10, 13]).toArray⟩

theorem at_byte {s : ByteArray} {j : Nat} {b : UInt8} (h : s.data.toList[j]? = some b) : j < s.size ∧ byteAt s j = b := by
  have hl : s.data.toList.length = s.size := rfl
  have hlt := (List.getElem?_eq_some_iff.1 h).1
  refine ⟨by omega, ?_⟩
  unfold byteAt
  rw [List.getD, h]; rfl

theorem trim_is {s : ByteArray} {a b : Nat} (hab : a ≤ b) (hb : b ≤ s.size) (h1 : ∀ j, j < a → hasB blanks (byteAt s j) = true) (h2 : ∀ j, b ≤ j → j < s.size → hasB blanks (byteAt s j) = true)
    (h3 : a < b → hasB blanks (byteAt s a) = false) (h4 : a < b → hasB blanks (byteAt s (b - 1)) = false) : trimS s = s.extract a b := by
  have hl : s.data.toList.length = s.size := rfl
  unfold trimS Lib.trimS
  rw [Lib.extract_eq]
  by_cases hlt : a < b
  · rw [Lib.trimRightS_take _ _ b (by omega) (fun j c hj hc => by
      obtain ⟨h5, h6⟩ := at_byte hc
      rw [blanks_has, ← h6]; exact h2 j hj h5) (fun c _ hc => by
      obtain ⟨h5, h6⟩ := at_byte hc
      rw [blanks_has, ← h6]; exact h4 hlt)]
    rw [Lib.trimLeftS_drop _ _ a (by simp; omega) (fun j c hj hc => by
      rw [List.getElem?_take, if_pos (by omega)] at hc
      obtain ⟨h5, h6⟩ := at_byte hc
      rw [blanks_has, ← h6]; exact h1 j hj) (fun c hc => by
      rw [List.getElem?_take, if_pos hlt] at hc
      obtain ⟨h5, h6⟩ := at_byte hc
      rw [blanks_has, ← h6]; exact h3 hlt)]
    rw [List.drop_take]
  · obtain rfl : a = b := by omega
    rw [Lib.trimRightS_take _ _ 0 (Nat.zero_le _) (fun j c hj hc => by
      obtain ⟨h5, h6⟩ := at_byte hc
      rw [blanks_has, ← h6]
      by_cases hja : j < a
      · exact h1 j hja
      · exact h2 j (by omega) h5) (fun c h0 _ => absurd h0 (Nat.lt_irrefl 0))]
    simp [Lib.trimLeftS]
end Go.Proofs.YteabhblbefglpaaDoor

/- fold.Trim, the reference's Trim. -/
namespace Go.Proofs.YteabhblbefglpaaDoor
open Go.RowKit

theorem fold_Trim (s : ByteArray) (w : World) (hs : s.size ≤ 9223372036854775807) : Calls Tryd.prog 61 #[.string s] w fun e w' => e = .returned (.string (trimS s)) ∧ Below w.heap.size w w' := by
  have hc := fun W => Any.strings_Trim_laid Tryd.lays160 (by kernel_rfl) s blanks W hs (by decide) (ascii_of_all (by decide))
  have HC := Lib.hid hc
  clear hc
  go_enter Tryd.func61, Tryd.ntmps61
  go_wp2_with fail
  refine (HC.out _).mono ?_
  rintro e w1 ⟨rfl, hb⟩
  go_wp2_with fail
  go_ret
  exact ⟨rfl, hb⟩

end Go.Proofs.YteabhblbefglpaaDoor
