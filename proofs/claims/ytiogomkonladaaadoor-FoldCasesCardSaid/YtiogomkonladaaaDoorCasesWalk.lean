/- The walk of FoldCases. -/
import Derived.Test.YtiogomkonladaaaDoorFoldAll
import Derived.Test.YtiogomkonladaaaDoorFoldTrim
import Derived.Test.YtiogomkonladaaaDoorCasesPlain
import Derived.Test.YtiogomkonladaaaDoorSpeaks
import Derived.Test.YtiogomkonladaaaDoorLaid
namespace Go.Proofs.YtiogomkonladaaaDoor
open Go.RowKit

theorem cases_long (s : ByteArray) (n : Nat) (w : World) (h : 1000 < s.size) : Calls Tryd.prog 4 #[.string s, .int .u8 (n : Int)] w fun e w' => e = .returned (.bool true) ∧ Below w.heap.size w w' := by
  go_enter Tryd.func4, Tryd.ntmps4
  go_wp2_with fail
  refine (law_speaks _).mono ?_
  rintro e w1 ⟨rfl, hb1⟩
  go_wp2_with fail
  go_ret
  exact ⟨rfl, hb1⟩

set_option maxHeartbeats 3200000 in
set_option maxRecDepth 100000 in
theorem cases_walk (s : ByteArray) (n : Nat) (w : World) (hs : s.size ≤ 1000) (hn : n < 256) : Calls Tryd.prog 4 #[.string s, .int .u8 (n : Int)] w fun e w' => e = .returned (.bool true) ∧ Below w.heap.size w w' := by
  have h7 := and7 n hn
  have hm7 : n % 8 ≤ 7 := by omega
  generalize n % 8 = m at *
  have cL := Lib.hid (fun W => fold_Lower s W (by omega))
  have hls := lowerS_size s
  have hli := lowerS_idem s
  generalize lowerS s = low at *
  have cLL := Lib.hid (fun W => hli ▸ fold_Lower low W (by omega))
  have hgs := greatS_size low
  have hsame : sameB low (greatS low) = true := by unfold sameB; rw [lowerS_great]; exact decide_eq_true rfl
  have cS := Lib.hid (fun W => hsame ▸ fold_Same low (greatS low) W (by omega) (by omega))
  have e1 : ((low.size : Int) == (s.size : Int)) = true := by rw [beq_iff_eq]; omega
  have e2 : (low.toList == low.toList) = true := beq_self_eq_true _
  have hpz : (padS.extract 0 m).size ≤ 8 := by rw [ByteArray.size_extract]; show min m 8 - 0 ≤ 8; omega
  have cT1 := Lib.hid (fun W => trim_pad m ▸ fold_Trim (padS.extract 0 m) W (by omega))
  have cT2 := Lib.hid (fun W => trim_padded m s ▸ fold_Trim (padS.extract 0 m ++ s ++ padS.extract 0 m) W (by rw [ByteArray.size_append, ByteArray.size_append]; omega))
  have cT3 := Lib.hid (fun W => fold_Trim s W (by omega))
  have hta : ((trimS s).toList == (trimS s).toList) = true := beq_self_eq_true _
  generalize trimS s = ts at *
  have HGS := Lib.hid hgs
  have H7 := Lib.hid h7
  have hlz : low.size ≤ 1000 := by omega
  clear hgs hsame hli h7 hls hpz
  go_enter Tryd.func4, Tryd.ntmps4
  go_wp2_with fail
  refine (law_speaks _).mono ?_
  rintro e w1 ⟨rfl, hb1⟩
  go_wp2_with fail
  refine (cL.out _).mono ?_
  rintro e w2 ⟨rfl, hb2⟩
  have hb12 := Bt hb1 hb2
  clear hb1 hb2
  go_wp2_with ((with_reducible refine wpList_bytes (o := ⟨some 18, _, _, _, _, _⟩) rfl 9 33 5 _ rfl low rfl Tryd.underlying9 Tryd.underlying33 Tryd.underlying5 ?_); intro cap w3 hcap hB hb3 hsz3)
  have hb13 := Bt hb12 hb3
  have hlt2 : w2.heap.size < w3.heap.size := by omega
  generalize hg : w2.heap.size = g at *
  have hg0 : w.heap.size ≤ g := by have := hb12.size; omega
  clear hb12 hb3 hsz3 hg
  go_loopw [21] (fun a wr => ∃ i : Nat, i ≤ low.size ∧ a = .int .i64 i ∧ BytesAt wr g (greatTo low i) ∧ Below w.heap.size w wr) (fun a _ => low.size - (intOf a).toNat)
  case atStart => exact ⟨0, Nat.zero_le _, rfl, by rw [greatTo_zero]; exact hB, hb13⟩
  case round =>
    obtain ⟨i, hil, rfl, hBr, hbr⟩ := hrel
    by_cases hlt : i < low.size
    · have hc := hBr.cell (k := i) (by rw [greatTo_len]; exact hlt)
      have hfz := hBr.frozen (k := i) (by rw [greatTo_len]; exact hlt)
      rw [greatTo_at hlt] at hc
      have hst := fun b => hBr.store (k := i) (by rw [greatTo_len]; exact hlt) b
      have hset := greatTo_set hlt
      have hkeep := greatTo_keep hlt
      have hnat := greatB_nat (byteAt low i)
      have hdef : greatB (byteAt low i) = if 97 ≤ (byteAt low i).toNat ∧ (byteAt low i).toNat ≤ 122 then byteAt low i - 32 else byteAt low i := rfl
      have hb := (byteAt low i).toNat_lt
      generalize byteAt low i = c at *
      by_cases hc1 : 97 ≤ c.toNat
      · by_cases hc2 : c.toNat ≤ 122
        · have hv := hnat hc1 hc2
          have h2 := hst (greatB c)
          have hcast : (((greatB c).toNat : Nat) : Int) = (c.toNat : Int) - 32 := by rw [hv]; omega
          rw [hset, hcast] at h2
          have H2 := Lib.hid h2
          clear hst hset hkeep hnat hdef hv h2 hBr hcast
          go_wp2_with fail
          go_roundw
          case rel => exact ⟨i + 1, by omega, by go_num, H2.out, hbr.setCell hg0 _⟩
          case measure => simp [intOf]; omega
        · have hk := hkeep (by rw [hdef, if_neg (by omega)])
          have h2 : BytesAt wr g (greatTo low (i + 1)) := by rw [hk]; exact hBr
          have H2 := Lib.hid h2
          clear hst hset hkeep hnat hdef hk h2 hBr
          go_wp2_with fail
          go_roundw
          case rel => exact ⟨i + 1, by omega, by go_num, H2.out, hbr⟩
          case measure => simp [intOf]; omega
      · have hk := hkeep (by rw [hdef, if_neg (by omega)])
        have h2 : BytesAt wr g (greatTo low (i + 1)) := by rw [hk]; exact hBr
        have H2 := Lib.hid h2
        clear hst hset hkeep hnat hdef hk h2 hBr
        go_wp2_with fail
        go_roundw
        case rel => exact ⟨i + 1, by omega, by go_num, H2.out, hbr⟩
        case measure => simp [intOf]; omega
    · obtain rfl : i = low.size := by omega
      have hBc : ∀ w' : World, Below wr.heap.size wr w' → (convert 33 9 (.slice (some ⟨g, 0, none⟩) low.size cap)).run Tryd.prog w' = .ok (.string (greatS low)) w' := fun w' hb => by
        have hcv := run_back w' 33 9 5 g cap _ Tryd.underlying33 Tryd.underlying5 Tryd.underlying9 (hBr.below hb hBr.lt)
        rw [greatTo_len, greatTo_all] at hcv
        exact hcv
      have HBC := Lib.hid hBc
      clear hBr hBc hB
      have h7 := H7.out
      go_wp2_with fail
      refine (cLL.out _).mono ?_
      rintro e w4 ⟨rfl, hb4⟩
      have hcv := HBC.out w4 hb4
      have hbr4 := Bt hbr hb4
      clear hb4
      go_wp2_with fail
      refine (cS.out _).mono ?_
      rintro e w5 ⟨rfl, hb5⟩
      have hbr5 := Bt hbr4 hb5
      clear hb5 hbr4 hcv HBC
      go_wp2_with fail
      refine (cT1.out _).mono ?_
      rintro e w6 ⟨rfl, hb6⟩
      have hbr6 := Bt hbr5 hb6
      clear hb6 hbr5
      go_wp2_with fail
      refine (cT2.out _).mono ?_
      rintro e w7 ⟨rfl, hb7⟩
      have hbr7 := Bt hbr6 hb7
      clear hb7 hbr6
      go_wp2_with fail
      refine (cT3.out _).mono ?_
      rintro e w8 ⟨rfl, hb8⟩
      have hbr8 := Bt hbr7 hb8
      clear hb8 hbr7
      go_wp2_with fail
      go_ret
      exact ⟨rfl, hbr8⟩

theorem walkFoldCases (a : ByteArray) (n : Int) (w : World) (_ : Utf8Laid w) (_ : a.size ≤ maxLen) (hn : (Lit.int .u8 n).wf = true) : Calls Tryd.prog 4 #[.string a, .int .u8 n] w fun e w' => e = .returned (.bool true) ∧ Below w.heap.size w w' := by
  have hb : 0 ≤ n ∧ n < 256 := by
    simp [Lit.wf, IntKind.min, IntKind.max, IntKind.signed, IntKind.bits] at hn
    omega
  obtain ⟨m, rfl⟩ := Int.eq_ofNat_of_zero_le hb.1
  by_cases h : a.size ≤ 1000
  · exact cases_walk a m w h (by omega)
  · exact cases_long a m w (by omega)
end Go.Proofs.YtiogomkonladaaaDoor
