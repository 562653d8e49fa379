/- (*strings.byteStringReplacer).Replace. -/
import Derived.Test.YtndppcklpcfikaaGreatDoorMediaCasesM14
import Derived.Test.YtndppcklpcfikaaGreatDoorMediaCasesM8
import Derived.Test.YtndppcklpcfikaaGreatDoorShelf
import Derived.Test.YtndppcklpcfikaaGreatDoorMediaCasesM2
import Derived.BigQuiet
import Derived.Laws.CopyOwn
import Derived.Deep.RegionLaw
import Derived.Deep.DeepCutAuto

namespace Go.Proofs.YtndppcklpcfikaaGreatDoor
open Go.RowKit

/-- How many bytes are to be replaced. -/
def escN (l : List UInt8) : Nat := Lib.countByte l 92 + Lib.countByte l 34
theorem escN_cons (c : UInt8) (l : List UInt8) : escN (c :: l) = (if c = 34 ∨ c = 92 then 1 else 0) + escN l := by
  unfold escN Lib.countByte
  rw [List.count_cons, List.count_cons]
  by_cases h1 : c = 34
  · subst h1; simp; omega
  · by_cases h2 : c = 92
    · subst h2; simp; omega
    · simp [h1, h2]
theorem escL_length (l : List UInt8) : (escL l).length = l.length + escN l := by
  induction l with
  | nil => rfl
  | cons c l ih =>
    rw [escL_cons, List.length_append, ih, escN_cons]
    split <;> simp <;> omega
theorem escL_same : ∀ {l : List UInt8}, escN l = 0 → escL l = l := by
  intro l
  induction l with
  | nil => intro _; rfl
  | cons c l ih =>
    intro h
    rw [escN_cons] at h
    by_cases hc : c = 34 ∨ c = 92
    · rw [if_pos hc] at h; omega
    · rw [if_neg hc] at h
      rw [escL_cons, if_neg hc, ih (by omega)]; rfl
theorem escN_app (a b : List UInt8) : escN (a ++ b) = escN a + escN b := by
  unfold escN Lib.countByte; rw [List.count_append, List.count_append]; omega
theorem escN_le (l : List UInt8) : escN l ≤ 2 * l.length := by
  have h1 := List.count_le_length (a := (92 : UInt8)) (l := l)
  have h2 := List.count_le_length (a := (34 : UInt8)) (l := l)
  unfold escN Lib.countByte; omega
theorem info_u8R : (Tryz.prog.info? 5).map (fun i => (i.zero, i.size, i.bytes)) = some (some (.int .u8 0), 1, 1) := by kernel_rfl
theorem make_bytesR (n : Nat) (hn : n ≤ 16777216) (W : World) : (Instr.makeSlice 58 (.int .i64 (n : Int)) (.int .i64 (n : Int))).run Tryz.prog W = .ok (.slice (some ⟨W.heap.size, 0, none⟩) n n) (W.alloc (.cells (madeCells #[.int .u8 0] n) 5)) := by
  obtain ⟨i, hi, hz, hsize, hby⟩ := info_parts info_u8R
  exact run_make_row 58 5 i (.int .u8 0) Tryz.underlying58 hi hz hsize rfl .i64 .i64 n (by rw [hby]; omega) (by omega) W
/-- A buffer of a call's own, all of it. -/
def BufAt (w : World) (b : Nat) (l : List UInt8) : Prop := w.heap[b]? = some (.cells (l.map byteV).toArray 5 (0, 0))
section
variable {w w' : World} {b : Nat} {l : List UInt8}
theorem BufAt.made (w : World) (n : Nat) : BufAt (w.alloc (.cells (madeCells #[.int .u8 0] n) 5)) w.heap.size (List.replicate n 0) := by
  have h := heap_alloc_new w (.cells (madeCells #[.int .u8 0] n) 5)
  obtain ⟨c, hb, hn, hc⟩ := World.rowIs_made w (.int .u8 0) n 5
  unfold BufAt
  rw [hb]
  congr 2
  apply Array.ext
  · rw [hn]; simp
  · intro i hi hi2
    have := hc i (by omega)
    rw [Array.getElem?_eq_getElem hi] at this
    injection this with this
    rw [this]
    simp [byteV]
theorem BufAt.bytes (h : BufAt w b l) : BytesAt w b l := ⟨5, [], 0, 0, .inl (Nat.le_refl _), by rw [List.append_nil]; exact h⟩
theorem bytes_src (h : BytesAt w b l) : ∀ j v, (l.map byteV)[j]? = some v → w.cell? ((⟨b, 0, none⟩ : Addr).add j) = some v := by
  intro j v hj
  rw [List.getElem?_map] at hj
  obtain ⟨x, hx, rfl⟩ := Option.map_eq_some_iff.1 hj
  obtain ⟨hjl, rfl⟩ := List.getElem?_eq_some_iff.1 hx
  rw [Addr.add_lit, Nat.zero_add, h.cell hjl]
  simp [byteV, List.getD, hjl]
theorem one_bytes (l : List UInt8) : ∀ v ∈ l.map byteV, v.oneCell' = true := by
  intro v hv
  obtain ⟨x, _, rfl⟩ := List.mem_map.1 hv
  rfl
theorem BufAt.lt (h : BufAt w b l) : b < w.heap.size := lt_of_block h
theorem BufAt.store (h : BufAt w b l) {k : Nat} (hk : k < l.length) (c : UInt8) : BufAt (w.setCell ⟨b, k, none⟩ (.int .u8 (c.toNat : Int))) b (l.set k c) := by
  unfold BufAt at h ⊢
  simp only [World.setCell, Array.getElem?_modify, h]
  simp [List.setIfInBounds_toArray, hk, byteV, List.map_set]
theorem BufAt.spliced {off : Nat} {cs : List UInt8} (h : w.heap[b]? = some (.cells (splice (l.map byteV) off (cs.map byteV)).toArray 5 (0, 0))) : BufAt w b (l.take off ++ (cs ++ l.drop (off + cs.length))) := by
  unfold BufAt
  rw [h]
  congr 3
  simp [splice, List.map_take, List.map_drop]
end
/-- So far written: what stands for the first i bytes; noughts behind it. -/
def escTo (s : ByteArray) (M i : Nat) : List UInt8 := escL (s.data.toList.take i) ++ List.replicate (M - (escL (s.data.toList.take i)).length) 0
theorem escTo_len {s : ByteArray} {M i : Nat} (h : (escL (s.data.toList.take i)).length ≤ M) : (escTo s M i).length = M := by unfold escTo; rw [List.length_append, List.length_replicate]; omega
theorem escTo_fit (s : ByteArray) (i : Nat) : (escL (s.data.toList.take i)).length ≤ (escL s.data.toList).length := by
  have : escL s.data.toList = escL (s.data.toList.take i) ++ escL (s.data.toList.drop i) := by rw [← escL_app, List.take_append_drop]
  rw [this, List.length_append]; omega
theorem esc_take {s : ByteArray} {i : Nat} (h : i < s.size) : escL (s.data.toList.take (i + 1)) = escL (s.data.toList.take i) ++ (if s[i] = 34 ∨ s[i] = 92 then [92, s[i]] else [s[i]]) := by
  have hL : s.data.toList.length = s.size := rfl
  rw [List.take_succ_eq_append_getElem (by omega), escL_app]
  congr 1
  show (if s[i] = 34 ∨ s[i] = 92 then [92, s[i]] else [s[i]]) ++ escL [] = _
  rw [show escL [] = [] from rfl, List.append_nil]
theorem escTo_one {s : ByteArray} {M i : Nat} (h : i < s.size) (hE : ¬ (s[i] = 34 ∨ s[i] = 92)) (hM : (escL (s.data.toList.take (i + 1))).length ≤ M) : (escTo s M i).set (escL (s.data.toList.take i)).length s[i] = escTo s M (i + 1) := by
  have ht := esc_take h
  rw [if_neg hE] at ht
  have hl := congrArg List.length ht
  rw [List.length_append, List.length_singleton] at hl
  unfold escTo
  rw [ht, List.set_append_right _ _ (Nat.le_refl _), Nat.sub_self]
  obtain ⟨r, hr⟩ : ∃ r, M - (escL (s.data.toList.take i)).length = r + 1 := ⟨M - (escL (s.data.toList.take i)).length - 1, by omega⟩
  rw [hr, List.replicate_succ, List.set_cons_zero, List.length_append, List.length_singleton, show M - ((escL (s.data.toList.take i)).length + 1) = r by omega]
  simp
theorem escTo_two {s : ByteArray} {M i : Nat} (h : i < s.size) (hE : s[i] = 34 ∨ s[i] = 92) (hM : (escL (s.data.toList.take (i + 1))).length ≤ M) :
    (escTo s M i).take (escL (s.data.toList.take i)).length ++ ([92, s[i]] ++ (escTo s M i).drop ((escL (s.data.toList.take i)).length + 2)) = escTo s M (i + 1) := by
  have ht := esc_take h
  rw [if_pos hE] at ht
  have hl := congrArg List.length ht
  rw [List.length_append] at hl
  simp only [List.length_cons, List.length_nil] at hl
  unfold escTo
  rw [ht, List.take_left' rfl, List.drop_append, List.drop_eq_nil_of_le (by omega), List.nil_append, List.drop_replicate, List.length_append]
  simp only [List.length_cons, List.length_nil]
  rw [List.append_assoc]
  congr 3
  omega
set_option maxHeartbeats 3200000 in
set_option maxRecDepth 100000 in
theorem bsr_Replace (B g : Nat) (s : ByteArray) (w : World) (h : RepAt w B g) (hs : s.size ≤ 1000000) :
    Calls Tryz.prog 166 #[.pointer (some ⟨g, 0, none⟩), .string s] w fun e w' => e = .returned (.string (ofL (escL s.data.toList))) ∧ Below w.heap.size w w' := by
  obtain ⟨p, q, t, cp, cq, f, hB, hr, hno, h34, hb34, h92, hb92, h256, t0, t1⟩ := h
  have c256 := hr.cell (i := 256) (by decide)
  have c34 := hr.cell (i := 34) (by decide)
  have c92 := hr.cell (i := 92) (by decide)
  rw [h256] at c256
  rw [h34] at c34
  rw [h92] at c92
  have hrun := neq_nilB
  have i92 : ({ data := #[92] } : ByteArray)[0].toNat = 92 := rfl
  have i34 : ({ data := #[34] } : ByteArray)[0].toNat = 34 := rfl
  have hN : escN s.data.toList = Lib.countByte s.data.toList 92 + Lib.countByte s.data.toList 34 := rfl
  have hc1 : Lib.countByte s.data.toList 92 ≤ s.size := List.count_le_length
  have hc2 : Lib.countByte s.data.toList 34 ≤ s.size := List.count_le_length
  have C1 := Lib.hid (Tryz.strings_Count_one s 92)
  have C2 := Lib.hid (Tryz.strings_Count_one s 34)
  have HR := Lib.hid hr
  have HNO := Lib.hid hno
  have H34 := Lib.hid hb34
  have H92 := Lib.hid hb92
  clear hr hno hb34 hb92 h34 h92 h256
  go_enter Tryz.func166, Tryz.ntmps166
  go_upto_if 26 with (fail)
  go_cut [5, 6] (fun n a wx => n = .int .i64 ((s.size + escN s.data.toList : Nat) : Int) ∧ a = .bool (decide (0 < escN s.data.toList)) ∧ ∃ m, w.drewN m = wx)
  case first =>
    by_cases h16 : 16 ≤ s.size
    · generalize Lib.countByte s.data.toList 92 = n1 at *
      generalize Lib.countByte s.data.toList 34 = n2 at *
      generalize escN s.data.toList = N at *
      go_wp2_with fail
      refine wp_loop_rounds 3 ?_
      rw [rounds_succ]
      go_wp2_with fail
      refine (C1.out _).mono ?_
      rintro e w2 ⟨rfl, rfl⟩
      by_cases hn1 : n1 = 0
      · subst hn1
        go_wp2_with fail
        rw [rounds_succ]
        go_wp2_with fail
        refine (C2.out _).mono ?_
        rintro e w3 ⟨rfl, rfl⟩
        by_cases hn2 : n2 = 0
        · subst hn2
          go_wp2_with fail
          rw [rounds_succ]
          go_wp2_with fail
          go_meet
          exact ⟨by first | go_num | (congr 1; omega), by congr 1; simp; omega, by first | exact ⟨_, rfl⟩ | exact ⟨0, rfl⟩⟩
        · have e2 : ((n2 : Int) != 0) = true := by simp; omega
          have e2' : ¬ (n2 : Int) = 0 := by omega
          go_wp2_with fail
          go_quiet (fail)
          go_wp2_with fail
          rw [rounds_succ]
          go_wp2_with fail
          go_meet
          exact ⟨by first | go_num | (congr 1; omega), by congr 1; simp; omega, by first | exact ⟨_, rfl⟩ | exact ⟨0, rfl⟩⟩
      · have e1 : ((n1 : Int) != 0) = true := by simp; omega
        have e1' : ¬ (n1 : Int) = 0 := by omega
        go_wp2_with fail
        go_quiet (fail)
        go_wp2_with fail
        rw [rounds_succ]
        go_wp2_with fail
        refine (C2.out _).mono ?_
        rintro e w3 ⟨rfl, rfl⟩
        by_cases hn2 : n2 = 0
        · subst hn2
          go_wp2_with fail
          rw [rounds_succ]
          go_wp2_with fail
          go_meet
          exact ⟨by first | go_num | (congr 1; omega), by congr 1; simp; omega, by first | exact ⟨_, rfl⟩ | exact ⟨0, rfl⟩⟩
        · have e2 : ((n2 : Int) != 0) = true := by simp; omega
          have e2' : ¬ (n2 : Int) = 0 := by omega
          go_wp2_with fail
          go_quiet (fail)
          go_wp2_with fail
          rw [rounds_succ]
          go_wp2_with fail
          go_meet
          exact ⟨by first | go_num | (congr 1; omega), by congr 1; simp; omega, by first | exact ⟨_, rfl⟩ | exact ⟨0, rfl⟩⟩
    · have h16' : ¬ (16 : Int) ≤ (s.size : Int) := by omega
      have HN := Lib.hid hN
      clear hN hc1 hc2
      have hL : s.data.toList.length = s.size := rfl
      go_wp2_with fail
      go_loopw [5, 6, 10] (fun n a x wr => ∃ i : Nat, i ≤ s.size ∧ n = .int .i64 ((s.size + escN (s.data.toList.take i) : Nat) : Int) ∧ a = .bool (decide (0 < escN (s.data.toList.take i))) ∧ x = .int .i64 i ∧ w = wr) (fun _ _ x _ => s.size - (intOf x).toNat)
      case atStart => exact ⟨0, Nat.zero_le _, by simp [escN, Lib.countByte], by simp [escN, Lib.countByte], rfl, rfl⟩
      case round =>
        obtain ⟨i, hil, rfl, rfl, rfl, rfl⟩ := hrel
        by_cases hlt : i < s.size
        · have hbi := byteAt_ix hlt
          have hst : escN (s.data.toList.take (i + 1)) = escN (s.data.toList.take i) + (if s[i] = 34 ∨ s[i] = 92 then 1 else 0) := by
            rw [List.take_succ_eq_append_getElem (by omega), escN_app, escN_cons]
            show _ + ((if s[i] = 34 ∨ s[i] = 92 then 1 else 0) + 0) = _
            omega
          have hle := escN_le (s.data.toList.take i)
          rw [List.length_take] at hle
          generalize escN (s.data.toList.take i) = k at *
          have hb := s[i].toNat_lt
          by_cases hE : s[i] = 34 ∨ s[i] = 92
          · rw [if_pos hE] at hst
            have HST := Lib.hid hst
            clear hst
            rcases hE with hE | hE
            · have hi : (s[i]'hlt).toNat = 34 := by rw [hE]; rfl
              clear hE hbi
              go_wp2_with fail
              go_roundw
              case rel => exact ⟨i + 1, by omega, by rw [HST.out]; go_num, by rw [HST.out]; first | (congr 1; done) | (congr 1; simp), by go_num, by first | rfl | trivial⟩
              case measure => simp [intOf]; omega
            · have hi : (s[i]'hlt).toNat = 92 := by rw [hE]; rfl
              clear hE hbi
              go_wp2_with fail
              go_roundw
              case rel => exact ⟨i + 1, by omega, by rw [HST.out]; go_num, by rw [HST.out]; first | (congr 1; done) | (congr 1; simp), by go_num, by first | rfl | trivial⟩
              case measure => simp [intOf]; omega
          · rw [if_neg hE] at hst
            have HST := Lib.hid hst
            clear hst
            have hnl := HNO.out s[i].toNat hb (fun e => hE (.inl (UInt8.toNat_inj.1 e))) (fun e => hE (.inr (UInt8.toNat_inj.1 e)))
            have hcl := HR.out.cell (i := s[i].toNat) (by omega)
            rw [hnl] at hcl
            clear hE hnl hbi
            go_wp2_with fail
            go_roundw
            case rel => exact ⟨i + 1, by omega, by rw [HST.out]; go_num, by rw [HST.out]; rfl, by go_num, by first | rfl | trivial⟩
            case measure => simp [intOf]; omega
        · obtain rfl : i = s.size := by omega
          have hfull : s.data.toList.take s.size = s.data.toList := List.take_of_length_le (by omega)
          rw [hfull]
          go_wp2_with fail
          go_meet
          exact ⟨rfl, rfl, 0, rfl⟩
  case rest =>
    obtain ⟨rfl, rfl, m, rfl⟩ := hcut
    have hbm : Below w.heap.size w (w.drewN m) := below_drewN (Below.refl _ _) m
    by_cases h0 : escN s.data.toList = 0
    · have hsame := escL_same h0
      have HS := Lib.hid hsame
      rw [h0]
      clear hN h0 hc1 hc2 hsame
      go_wp2_with fail
      go_ret
      exact ⟨ret_str (a := s) (by rw [HS.out, ofL_list]), hbm⟩
    · have hpos : 0 < escN s.data.toList := by omega
      have hd0 : decide (0 < escN s.data.toList) = true := decide_eq_true hpos
      rw [hd0]
      have hM : s.size + escN s.data.toList = (escL s.data.toList).length := (escL_length _).symm
      have hMz : s.size + escN s.data.toList ≤ 3000000 := by omega
      have HM := Lib.hid hM
      have hL : s.data.toList.length = s.size := rfl
      have hmk := make_bytesR (s.size + escN s.data.toList) (by omega) (w.drewN m)
      have hfit := fun i => escTo_fit s i
      rw [← hM] at hfit
      have HFIT := Lib.hid hfit
      clear hN h0 hc1 hc2 hd0 hpos hfit
      generalize s.size + escN s.data.toList = M at *
      have hbuf := BufAt.made (w.drewN m) M
      have hb1 : Below w.heap.size w ((w.drewN m).alloc (.cells (madeCells #[.int .u8 0] M) 5)) := hbm.alloc (Nat.le_refl _) _
      clear hM
      go_wp2_with fail
      go_loopw [13, 14] (fun j x wr => ∃ i : Nat, i ≤ s.size ∧ x = .int .i64 i ∧ j = .int .i64 ((escL (s.data.toList.take i)).length : Nat) ∧ BufAt wr w.heap.size (escTo s M i) ∧ Below w.heap.size w wr) (fun _ x _ => s.size - (intOf x).toNat)
      case atStart => exact ⟨0, Nat.zero_le _, rfl, rfl, by simpa [escTo, escL] using hbuf, hb1⟩
      case round =>
        obtain ⟨i, hil, rfl, rfl, hbf, hbr⟩ := hrel
        have f0 := HFIT.out i
        by_cases hlt : i < s.size
        · have f1 := HFIT.out (i + 1)
          have hb := s[i].toNat_lt
          have ht := esc_take hlt
          by_cases hE : s[i] = 34 ∨ s[i] = 92
          · have htwo := escTo_two (M := M) hlt hE f1
            rw [if_pos hE] at ht
            have hl1 := congrArg List.length ht
            rw [List.length_append] at hl1
            simp only [List.length_cons, List.length_nil] at hl1
            have hlen := escTo_len f0
            have hgl := HR.out.lt
            have hk34 := (hbr.cell (p := ⟨g, 34, none⟩) hgl).trans c34
            have hk92 := (hbr.cell (p := ⟨g, 92, none⟩) hgl).trans c92
            have hy34 := H34.out.below hbr H34.out.lt
            have hy92 := H92.out.below hbr H92.out.lt
            have hsp : ∀ c : UInt8, ∀ w4, w4.heap[w.heap.size]? = some (.cells (splice ((escTo s M i).map byteV) (escL (s.data.toList.take i)).length ([92, c].map byteV)).toArray 5 (0, 0)) → s[i] = c → BufAt w4 w.heap.size (escTo s M (i + 1)) := fun c w4 h e => by
              have := BufAt.spliced h
              subst e
              rw [← htwo]; exact this
            have HSP := Lib.hid hsp
            have HL1 := Lib.hid hl1
            have hfl : (escL (s.data.toList.take i)).length + 2 ≤ M := by omega
            have hBF := Lib.hid hbf
            clear ht htwo hsp hl1 f0 f1 hbf
            generalize (escL (s.data.toList.take i)).length = n at *
            have hnM : (n : Int) ≤ (M : Int) := by omega
            have hn0 : (0 : Int) ≤ (n : Int) := by omega
            have hnc : ¬ M = n := by omega
            have hmin : Nat.min 2 (M - n) = 2 := Nat.min_eq_left (by omega)
            rcases hE with hE | hE
            · have hi : (s[i]'hlt).toNat = 34 := by rw [hE]; rfl
              have HE := Lib.hid hE
              clear hE
              go_wp2_with fail
              go_region_law (refine step_copy_splice rfl (.tmp 105) (.tmp 111) 58 58 rfl 5 Tryz.underlying58 (by kernel_rfl) _ (some ⟨p, 0, none⟩) _ _ 2 cp rfl rfl w.heap.size n ((escTo s M i).map byteV) 5 hBF.out ([92, 34].map byteV) hmin.symm (fun _ => ⟨rfl, _, rfl, bytes_src hy34⟩) (by simp only [List.length_map]; rw [hlen]; exact hfl) (one_bytes _) w.heap.size w hbr.drew (Nat.le_refl _) ?_; intro w4 hg4 hb4)
              have h4 := HSP.out 34 w4 hg4.out HE.out
              have H4 := Lib.hid h4
              clear h4 hg4 hbr hk34 hk92 hy34 hy92
              go_wp2_with fail
              go_roundw
              case rel => exact ⟨i + 1, by omega, by go_num, by rw [HL1.out]; go_num, H4.out, hb4⟩
              case measure => simp [intOf]; omega
            · have hi : (s[i]'hlt).toNat = 92 := by rw [hE]; rfl
              have HE := Lib.hid hE
              clear hE
              go_wp2_with fail
              go_region_law (refine step_copy_splice rfl (.tmp 105) (.tmp 111) 58 58 rfl 5 Tryz.underlying58 (by kernel_rfl) _ (some ⟨q, 0, none⟩) _ _ 2 cq rfl rfl w.heap.size n ((escTo s M i).map byteV) 5 hBF.out ([92, 92].map byteV) hmin.symm (fun _ => ⟨rfl, _, rfl, bytes_src hy92⟩) (by simp only [List.length_map]; rw [hlen]; exact hfl) (one_bytes _) w.heap.size w hbr.drew (Nat.le_refl _) ?_; intro w4 hg4 hb4)
              have h4 := HSP.out 92 w4 hg4.out HE.out
              have H4 := Lib.hid h4
              clear h4 hg4 hbr hk34 hk92 hy34 hy92
              go_wp2_with fail
              go_roundw
              case rel => exact ⟨i + 1, by omega, by go_num, by rw [HL1.out]; go_num, H4.out, hb4⟩
              case measure => simp [intOf]; omega
          · have hone := escTo_one (M := M) hlt hE f1
            rw [if_neg hE] at ht
            have hl1 := congrArg List.length ht
            rw [List.length_append, List.length_singleton] at hl1
            have hnl := HNO.out s[i].toNat hb (fun e => hE (.inl (UInt8.toNat_inj.1 e))) (fun e => hE (.inr (UInt8.toNat_inj.1 e)))
            have hr := HR.out
            have hcl := (hbr.cell (p := ⟨g, s[i].toNat, none⟩) hr.lt).trans (hr.cell (i := s[i].toNat) (by omega))
            rw [hnl] at hcl
            have hlen := escTo_len f0
            have hcc := hbf.bytes.cell (k := (escL (s.data.toList.take i)).length) (by omega)
            have hfz := hbf.bytes.frozen (k := (escL (s.data.toList.take i)).length) (by omega)
            have h2 := hbf.store (k := (escL (s.data.toList.take i)).length) (by omega) s[i]
            rw [hone] at h2
            have hb2 := hbr.setCell (show w.heap.size ≤ (⟨w.heap.size, (escL (s.data.toList.take i)).length, none⟩ : Addr).block from Nat.le_refl _) (.int .u8 (s[i].toNat : Int))
            have H2 := Lib.hid h2
            have HL1 := Lib.hid hl1
            have hlM : (escL (s.data.toList.take i)).length < M := by omega
            clear hE hnl ht hone h2 hl1 hbf hlen hr f0 f1
            generalize (escL (s.data.toList.take i)).length = n at *
            go_wp2_with fail
            go_roundw
            case rel => exact ⟨i + 1, by omega, by go_num, by rw [HL1.out]; go_num, H2.out, hb2⟩
            case measure => simp [intOf]; omega
        · obtain rfl : i = s.size := by omega
          have hfull : s.data.toList.take s.size = s.data.toList := List.take_of_length_le (by omega)
          have he : escTo s M s.size = escL s.data.toList := by
            unfold escTo
            rw [hfull, ← HM.out, Nat.sub_self, List.replicate_zero, List.append_nil]
          rw [he] at hbf
          have hcv := run_back wr 58 9 5 w.heap.size M _ Tryz.underlying58 Tryz.underlying5 Tryz.underlying9 hbf.bytes
          rw [← HM.out] at hcv
          clear he hbf hfull f0
          go_wp2_with fail
          go_ret
          exact ⟨rfl, hbr⟩
end Go.Proofs.YtndppcklpcfikaaGreatDoor

/- (*strings.Replacer).Replace, the first time; media.value. -/
namespace Go.Proofs.YtndppcklpcfikaaGreatDoor
open Go.RowKit

def RplDone (B b N : Nat) (w w1 : World) : Prop := ∃ g, RplAt w1 b 0 1 (.iface 157 (.pointer (some ⟨g, 0, none⟩))) (.slice none 0 0) ∧ RepAt w1 N g ∧ Below B w w1 ∧ N ≤ w1.heap.size
theorem RplDone.held {B b N : Nat} {w w1 : World} (h : RplDone B b N w w1) : OnceHeld b w1 := by
  obtain ⟨g, hR, _⟩ := h
  exact ⟨hR.cells.1, hR.cells.2.1, hR.frozen 0, hR.frozen 1⟩
set_option maxHeartbeats 1600000 in
set_option maxRecDepth 100000 in
theorem rpl_Replace (B b q c : Nat) (s : ByteArray) (w : World) (hR : RplAt w b 0 0 .nilIface (.slice (some ⟨q, 0, none⟩) 4 c)) (hf : FourAt w q) (hqb : q ≠ b) (hB : B ≤ b) (hs : s.size ≤ 1000000) :
    Calls Tryz.prog 47 #[.pointer (some ⟨b, 0, none⟩), .string s] w fun e w' => e = .returned (.string (ofL (escL s.data.toList))) ∧ Below B w w' := by
  have hb := hR.lt
  have hF := rep_buildOnce B b q c 1 _ (hR.set1 1) (hf.stored (a := ⟨b, 1, none⟩) (fun e => hqb e.symm) (.int .i32 1)) hB
  have hw1 : Below B w (w.setCell ⟨b, 1, none⟩ (.int .i32 1)) := (Below.refl _ _).setCell hB _
  rw [World.size_setCell] at hF
  have cD := Lib.hid (once_Do b 63 (.pointer (some ⟨b, 0, none⟩)) w (RplDone B b w.heap.size w) (enters_of Tryz.func63 (by kernel_rfl) rfl) hR.cells.1 hR.cells.2.1 (hR.frozen 1)
    (hF.mono fun e w' ⟨he, g, h1, h2, h3, h4⟩ => ⟨he, g, h1, h2, hw1.trans h3, h4⟩) (fun w' h => h.held))
  have hmf : ∀ (fn : Fn) (first cap : Array Value) (w : World), (Instr.makeFunc fn first cap).run Tryz.prog w = .ok (.func fn first cap) w := fun _ _ _ _ => rfl
  clear hF hw1
  go_enter Tryz.func47, Tryz.ntmps47
  go_wp2_with fail
  refine cD.out.mono ?_
  rintro e w2 ⟨rfl, w1, ⟨g, hR1, hP1, hb1, hs1⟩, rfl⟩
  have hR3 := ((hR1.set0 1).drew).set1 0
  have hP3 := ((hP1.stored (a := ⟨b, 0, none⟩) hb (.int .u32 1)).drew).stored (a := ⟨b, 1, none⟩) hb (.int .i32 0)
  have hb3 : Below B w ((w1.setCell ⟨b, 0, none⟩ (.int .u32 1)).drew.setCell ⟨b, 1, none⟩ (.int .i32 0)) := ((hb1.setCell (show B ≤ (⟨b, 0, none⟩ : Addr).block from hB) _).drew).setCell (show B ≤ (⟨b, 1, none⟩ : Addr).block from hB) _
  clear hR1 hP1 hb1 cD
  generalize (w1.setCell ⟨b, 0, none⟩ (.int .u32 1)).drew.setCell ⟨b, 1, none⟩ (.int .i32 0) = w3 at *
  obtain ⟨_, _, c3, _⟩ := hR3.cells
  have cR := Lib.hid (bsr_Replace w.heap.size g s w3 hP3 hs)
  have hlt3 := hR3.lt
  clear hP3 hR3
  go_wp2_with fail
  refine cR.out.mono ?_
  rintro e w4 ⟨rfl, hb4⟩
  go_wp2_with fail
  go_ret
  exact ⟨rfl, hb3.trans (hb4.mono (by omega))⟩
theorem valT_yes {s : ByteArray} (h : tokOk s.data.toList = true) : ofL (valT s) = s := by unfold valT; rw [if_pos h, ofL_list]
theorem valT_no {s : ByteArray} (h : tokOk s.data.toList = false) : ofL (valT s) = (⟨#[34]⟩ : ByteArray) ++ ofL (escL s.data.toList) ++ ⟨#[34]⟩ := by
  unfold valT
  rw [if_neg (by rw [h]; decide)]
  show _ = (ofL [34] ++ ofL (escL s.data.toList)) ++ ofL [34]
  rw [ofL_app, ofL_app]
  rfl
set_option maxHeartbeats 1600000 in
set_option maxRecDepth 100000 in
theorem media_value (s : ByteArray) (w : World) (hs : s.size ≤ 1000000) : Calls Tryz.prog 26 #[.string s] w fun e w' => e = .returned (.string (ofL (valT s))) ∧ Below w.heap.size w w' := by
  have cT := Lib.hid (fun W => media_Token s W (by omega))
  cases ht : tokOk s.data.toList with
  | true =>
    rw [ht] at cT
    have HV := Lib.hid (valT_yes ht)
    clear ht
    go_enter Tryz.func26, Tryz.ntmps26
    go_wp2_with fail
    refine (cT.out _).mono ?_
    rintro e w1 ⟨rfl, hb1⟩
    go_wp2_with fail
    go_ret
    exact ⟨ret_str HV.out.symm, hb1⟩
  | false =>
    rw [ht] at cT
    have HV := Lib.hid (valT_no ht)
    have hez := escL_len s.data.toList
    have hL : s.data.toList.length = s.size := rfl
    have cR := Lib.hid (fun B b q c W hR hf hqb hB => rpl_Replace B b q c s W hR hf hqb hB hs)
    have hEz := ofL_size (escL s.data.toList)
    generalize ofL (escL s.data.toList) = E at *
    generalize escL s.data.toList = EL at *
    clear ht
    go_enter Tryz.func26, Tryz.ntmps26
    go_wp2_with fail
    refine (cT.out _).mono ?_
    rintro e w1 ⟨rfl, hb1⟩
    go_wp2_with fail
    have hfour : FourAt (w1.alloc (.cells #[.string ⟨#[34]⟩, .string ⟨#[92, 34]⟩, .string ⟨#[92]⟩, .string ⟨#[92, 92]⟩] 9)) w1.heap.size := by
      have hn := heap_alloc_new w1 (.cells #[.string ⟨#[34]⟩, .string ⟨#[92, 34]⟩, .string ⟨#[92]⟩, .string ⟨#[92, 92]⟩] 9)
      exact ⟨(cell_of_row _ _ 0 _ _ _ hn).trans rfl, (cell_of_row _ _ 1 _ _ _ hn).trans rfl, (cell_of_row _ _ 2 _ _ _ hn).trans rfl, (cell_of_row _ _ 3 _ _ _ hn).trans rfl⟩
    have hbA : Below w1.heap.size w1 (w1.alloc (.cells #[.string ⟨#[34]⟩, .string ⟨#[92, 34]⟩, .string ⟨#[92]⟩, .string ⟨#[92, 92]⟩] 9)) := (Below.refl _ _).alloc (Nat.le_refl _) _
    have hb1A := Bt hb1 hbA
    refine (new_Replacer _ _ hfour).mono ?_
    rintro e w2 ⟨b, q, c, rfl, hR, hf, hqb, hbb, hb2⟩
    have hb12 := Bt hb1A hb2
    have hBb : w.heap.size ≤ b := Nat.le_trans hb1A.size hbb
    clear hfour hbA hb1A hb1 hb2
    go_wp2_with fail
    refine (cR.out w.heap.size b q c _ hR hf hqb hBb).mono ?_
    rintro e w3 ⟨rfl, hb3⟩
    have hz1 : ((⟨#[34]⟩ : ByteArray)).size = 1 := rfl
    have hz2 : ((⟨#[34]⟩ : ByteArray) ++ E).size = 1 + E.size := by rw [ByteArray.size_append]; rfl
    go_wp2_with fail
    go_ret
    exact ⟨ret_str HV.out.symm, hb12.trans hb3⟩
end Go.Proofs.YtndppcklpcfikaaGreatDoor
