/- puny.reader.number. -/
import Derived.Test.YtakcfgmibijdnaaPunyPlainLM5
import Derived.Test.YtakcfgmibijdnaaPunyPlainLM2
import Derived.Lib.LastIndexByte

namespace Go.Proofs.Ytakcfgmibijdnaa
open Go.RowKit

set_option maxHeartbeats 6400000 in
set_option maxRecDepth 100000 in
theorem reader_number (p a0 b : Nat) (s : ByteArray) (w : World) (hr : RdP w p s a0 b) (hs : s.size ≤ 1024) (ha : a0 ≤ s.size) (hb : b ≤ 1000000000000) :
    Calls Try.prog 20 #[.pointer (some ⟨p, 0, none⟩)] w (RdPost p s a0 b w) := by
  have HR := Lib.hid (show rdN s a0 b = rdF s b (s.size - a0) a0 0 1 36 from rfl)
  have hkk := fun e j => rdF_kind s b (s.size - a0) a0 0 1 36 e j
  have hbd := fun i t => rdF_bounds s b (s.size - a0) a0 0 1 36 i t
  rw [← HR.out] at hkk hbd
  have HKK := Lib.hid hkk
  generalize hRR : rdN s a0 b = R at *
  have HRR := Lib.hid hRR
  clear hkk hbd hRR
  have HRD := Lib.hid hr
  clear hr
  go_enter Try.func20, Try.ntmps20
  go_wp2_with fail
  go_loopw [2, 4, 5] (fun x y z wr => ∃ a n v k : Nat, x = .int .i64 n ∧ y = .int .i64 v ∧ z = .int .i64 k ∧ a ≤ s.size ∧ k = 36 + 36 * (a - a0) ∧ a0 ≤ a ∧ n ≤ 2147483647 ∧ 1 ≤ v ∧ v ≤ 2147483647 ∧ rdF s b (s.size - a) a n v k = R ∧ RdP wr p s a b ∧ w.grownBy wr (some p)) (fun _ _ z _ => 40000 - (intOf z).toNat)
  case atStart => exact ⟨a0, 0, 1, 36, rfl, rfl, rfl, ha, by omega, Nat.le_refl _, by omega, by omega, by omega, HR.out.symm, HRD.out, grown_self _ _⟩
  case round =>
    obtain ⟨a, n, v, k, rfl, rfl, rfl, hal, hk, haa, hn, hv1, hv2, hgo, hrd, hgr⟩ := hrel
    obtain ⟨c0, c1, c2⟩ := hrd.cells
    have f1 := hrd.frozen 1
    have hk2 : k ≤ 36900 := by omega
    have HK := Lib.hid hk
    have HGR := Lib.hid hgr
    have HRD1 := Lib.hid hrd
    clear hk
    by_cases hlt : a < s.size
    · obtain ⟨f', hf'⟩ : ∃ f', s.size - a = f' + 1 := ⟨s.size - a - 1, by omega⟩
      have hf2 : s.size - (a + 1) = f' := by omega
      rw [hf'] at hgo
      have HF2 := Lib.hid hf2
      have hidx : s[a] = byteAt s a := by simp [byteAt, List.getD, hlt]; rfl
      have eqI : ((a : Int) == (s.size : Int)) = false := by rw [beq_eq_false_iff_ne]; omega
      have hltI : (a : Int) < (s.size : Int) := by omega
      have cV := Lib.hid (fun W => puny_value s[a] W)
      clear hf' hf2 hgr hrd
      cases hval : valN (byteAt s a) with
      | none =>
        rw [rd_form hlt hval] at hgo
        have HG := Lib.hid hgo
        have cV2 : ∀ W, Calls Try.prog 30 #[.int .u8 (s[a].toNat : Int)] W fun e w' => e = .returned (.tuple #[.int .i64 0, .bool false]) ∧ w' = W := fun W => by have := cV.out W; rw [hidx, hval] at this; rw [hidx]; exact this
        have CV2 := Lib.hid cV2
        clear hgo hval cV2 cV hidx
        go_wp2_with fail
        go_quiet (fail)
        have hrdq := HRD1.out.drewN nq
        have hgrq := grown_drewN HGR.out nq
        generalize wr.drewN nq = wq at *
        obtain ⟨c0, c1, c2⟩ := hrdq.cells
        have f1 := hrdq.frozen 1
        have HRDQ := Lib.hid hrdq
        have HGRQ := Lib.hid hgrq
        clear hrdq hgrq
        go_wp2_with fail
        go_quiet ((go_at_call 30; exact Calls.quiet_of_same (CV2.out _)))
        have hrdq := HRDQ.out.drewN nq
        have hgrq := grown_drewN HGRQ.out nq
        generalize wq.drewN nq = wv at *
        obtain ⟨c0, c1, c2⟩ := hrdq.cells
        have f1 := hrdq.frozen 1
        have HRDV := Lib.hid hrdq
        have HGRV := Lib.hid hgrq
        clear hrdq hgrq
        go_wp2_with fail
        refine (api_Fail' 11 a _).mono ?_
        rintro e w5 ⟨u, rfl, hu, hb5⟩
        have hgE := grown_trans HGRV.out (below_grownBy hb5 _)
        go_wp2_with fail
        go_ret2
        exact ⟨hgE, .inl ⟨11, a, u, by rw [HRR.out, ← HG.out], by decide, rfl, hu⟩⟩
      | some d =>
        have hd := valN_lt hval
        have hst1 := rd_far (b := b) (f := f') (n := n) (w := v) (k := k) hlt hval
        have hst2 := rd_ok (b := b) (f := f') (n := n) (w := v) (k := k) hlt hval
        have hst3 := rd_wide (b := b) (f := f') (n := n) (w := v) (k := k) hlt hval
        have hst4 := rd_next (b := b) (f := f') (n := n) (w := v) (k := k) hlt hval
        have cV2 : ∀ W, Calls Try.prog 30 #[.int .u8 (s[a].toNat : Int)] W fun e w' => e = .returned (.tuple #[.int .i64 (d : Int), .bool true]) ∧ w' = W := fun W => by have := cV.out W; rw [hidx, hval] at this; rw [hidx]; exact this
        have CV2 := Lib.hid cV2
        have hq := quo_int n d v hn hv1
        have hmx := mul_le_max hd hv2
        have ht := thrN_range k b
        have hw := wide_int v (thrN k b) ht.1 ht.2
        have cT := Lib.hid (fun W => puny_threshold k b W (by omega) hb)
        clear hval cV2 cV hidx
        by_cases h3 : 2147483647 < n + d * v
        · rw [hst1 h3] at hgo
          have hqI := hq.2 h3
          have HG := Lib.hid hgo
          clear hgo hst1 hst2 hst3 hst4 hq hw h3 hmx
          go_wp2_with fail
          go_quiet (fail)
          have hrdq := HRD1.out.drewN nq
          have hgrq := grown_drewN HGR.out nq
          generalize wr.drewN nq = wq at *
          obtain ⟨c0, c1, c2⟩ := hrdq.cells
          have f1 := hrdq.frozen 1
          have HRDQ := Lib.hid hrdq
          have HGRQ := Lib.hid hgrq
          clear hrdq hgrq
          go_wp2_with fail
          go_quiet ((go_at_call 30; exact Calls.quiet_of_same (CV2.out _)))
          have hrdq := HRDQ.out.drewN nq
          have hgrq := grown_drewN HGRQ.out nq
          generalize wq.drewN nq = wv at *
          obtain ⟨c0, c1, c2⟩ := hrdq.cells
          have f1 := hrdq.frozen 1
          have HRDV := Lib.hid hrdq
          have HGRV := Lib.hid hgrq
          clear hrdq hgrq
          go_wp2_with fail
          refine (api_Fail' 16 a _).mono ?_
          rintro e w5 ⟨u, rfl, hu, hb5⟩
          have hgE := grown_trans HGRV.out (below_grownBy hb5 _)
          go_wp2_with fail
          go_ret2
          exact ⟨hgE, .inl ⟨16, a, u, by rw [HRR.out, ← HG.out], by decide, rfl, hu⟩⟩
        have hqI := fun h => h3 (hq.1 h)
        have hnv : ((n + d * v : Nat) : Int) = (n : Int) + (d : Int) * (v : Int) := by simp
        have hdv : ((d * v : Nat) : Int) = (d : Int) * (v : Int) := by simp
        have hp0 : 0 ≤ (d : Int) * (v : Int) := by rw [← hdv]; exact Int.natCast_nonneg _
        have hp1 : (d : Int) * (v : Int) ≤ 77309411292 := by rw [← hdv]; omega
        have hnn : n + d * v ≤ 2147483647 := by omega
        by_cases h4 : d < thrN k b
        · rw [hst2 h3 h4] at hgo
          have HG := Lib.hid hgo
          have h4I : (d : Int) < ((thrN k b : Nat) : Int) := by omega
          have HNV := Lib.hid hnv
          clear hgo hst1 hst2 hst3 hst4 hq hw hmx hnv hdv h3 hnn h4
          generalize thrN k b = t at *
          go_wp2_with fail
          go_quiet (fail)
          have hrdq := HRD1.out.drewN nq
          have hgrq := grown_drewN HGR.out nq
          generalize wr.drewN nq = wq at *
          obtain ⟨c0, c1, c2⟩ := hrdq.cells
          have f1 := hrdq.frozen 1
          have HRDQ := Lib.hid hrdq
          have HGRQ := Lib.hid hgrq
          clear hrdq hgrq
          go_wp2_with fail
          go_quiet ((go_at_call 30; exact Calls.quiet_of_same (CV2.out _)))
          have hrdq := HRDQ.out.drewN nq
          have hgrq := grown_drewN HGRQ.out nq
          generalize wq.drewN nq = wv at *
          obtain ⟨c0, c1, c2⟩ := hrdq.cells
          have f1 := hrdq.frozen 1
          have HRDV := Lib.hid hrdq
          have HGRV := Lib.hid hgrq
          clear hrdq hgrq
          go_wp2_with fail
          refine (cT.out _).mono ?_
          rintro e w5 ⟨rfl, rfl⟩
          have hset := HRDV.out.setA (a + 1)
          have hgs := grown_set HGRV.out 1 (.int .i64 ((a + 1 : Nat) : Int))
          have hae : ((a + 1 : Nat) : Int) = (a : Int) + 1 := by simp
          rw [hae] at hset hgs
          have HSET := Lib.hid hset
          have HGS := Lib.hid hgs
          clear hset hgs hae
          go_wp2_with fail
          go_ret2
          exact ⟨HGS.out, .inr ⟨n + d * v, a + 1, by rw [HRR.out, ← HG.out], by rw [HNV.out]; rfl, by have := HSET.out; unfold RdP at this ⊢; simpa using this⟩⟩
        have h4I : ¬ (d : Int) < ((thrN k b : Nat) : Int) := by omega
        by_cases h5 : 2147483647 < v * (36 - thrN k b)
        · rw [hst3 h3 h4 h5] at hgo
          have HG := Lib.hid hgo
          have h5I := hw.2 h5
          clear hgo hst1 hst2 hst3 hst4 hq hw hmx hnv hdv h3 hnn h4 h5
          generalize thrN k b = t at *
          go_wp2_with fail
          go_quiet (fail)
          have hrdq := HRD1.out.drewN nq
          have hgrq := grown_drewN HGR.out nq
          generalize wr.drewN nq = wq at *
          obtain ⟨c0, c1, c2⟩ := hrdq.cells
          have f1 := hrdq.frozen 1
          have HRDQ := Lib.hid hrdq
          have HGRQ := Lib.hid hgrq
          clear hrdq hgrq
          go_wp2_with fail
          go_quiet ((go_at_call 30; exact Calls.quiet_of_same (CV2.out _)))
          have hrdq := HRDQ.out.drewN nq
          have hgrq := grown_drewN HGRQ.out nq
          generalize wq.drewN nq = wv at *
          obtain ⟨c0, c1, c2⟩ := hrdq.cells
          have f1 := hrdq.frozen 1
          have HRDV := Lib.hid hrdq
          have HGRV := Lib.hid hgrq
          clear hrdq hgrq
          go_wp2_with fail
          refine (cT.out _).mono ?_
          rintro e w5 ⟨rfl, rfl⟩
          go_wp2_with fail
          refine (api_Fail' 16 a _).mono ?_
          rintro e w5 ⟨u, rfl, hu, hb5⟩
          have hgE := grown_trans HGRV.out (below_grownBy hb5 _)
          go_wp2_with fail
          go_ret2
          exact ⟨hgE, .inl ⟨16, a, u, by rw [HRR.out, ← HG.out], by decide, rfl, hu⟩⟩
        · rw [hst4 h3 h4 h5] at hgo
          have HG := Lib.hid hgo
          have h5I := fun h => h5 (hw.1 h)
          have hvt : ((v * (36 - thrN k b) : Nat) : Int) = (v : Int) * (36 - ((thrN k b : Nat) : Int)) := by
            rw [Int.natCast_mul]; congr 1; omega
          have hw0 : 0 ≤ (v : Int) * (36 - ((thrN k b : Nat) : Int)) := by rw [← hvt]; exact Int.natCast_nonneg _
          have hw1 : (v : Int) * (36 - ((thrN k b : Nat) : Int)) ≤ 2147483647 := by rw [← hvt]; omega
          have hv1' : 1 ≤ v * (36 - thrN k b) := Nat.mul_pos (by omega) (by omega)
          have HNV := Lib.hid hnv
          have HVT := Lib.hid hvt
          have HN := Lib.hid hnn
          have H5 := Lib.hid (Nat.not_lt.1 h5)
          have HV1 := Lib.hid hv1'
          clear hgo hst1 hst2 hst3 hst4 hq hw hmx hnv hdv h3 hnn h4 h5 hvt hv1'
          generalize thrN k b = t at *
          go_wp2_with fail
          go_quiet (fail)
          have hrdq := HRD1.out.drewN nq
          have hgrq := grown_drewN HGR.out nq
          generalize wr.drewN nq = wq at *
          obtain ⟨c0, c1, c2⟩ := hrdq.cells
          have f1 := hrdq.frozen 1
          have HRDQ := Lib.hid hrdq
          have HGRQ := Lib.hid hgrq
          clear hrdq hgrq
          go_wp2_with fail
          go_quiet ((go_at_call 30; exact Calls.quiet_of_same (CV2.out _)))
          have hrdq := HRDQ.out.drewN nq
          have hgrq := grown_drewN HGRQ.out nq
          generalize wq.drewN nq = wv at *
          obtain ⟨c0, c1, c2⟩ := hrdq.cells
          have f1 := hrdq.frozen 1
          have HRDV := Lib.hid hrdq
          have HGRV := Lib.hid hgrq
          clear hrdq hgrq
          go_wp2_with fail
          refine (cT.out _).mono ?_
          rintro e w5 ⟨rfl, rfl⟩
          have hset := HRDV.out.setA (a + 1)
          have hgs := grown_set HGRV.out 1 (.int .i64 ((a + 1 : Nat) : Int))
          have hae : ((a + 1 : Nat) : Int) = (a : Int) + 1 := by simp
          rw [hae] at hset hgs
          have HSET := Lib.hid hset
          have HGS := Lib.hid hgs
          clear hset hgs hae
          go_wp2_with fail
          go_roundw
          case rel => exact ⟨a + 1, n + d * v, v * (36 - t), k + 36, by rw [HNV.out], by rw [HVT.out], by simp, by omega, by have := HK.out; omega, by omega, HN.out, HV1.out, H5.out, by rw [HF2.out]; exact HG.out, by have := HSET.out; unfold RdP at this ⊢; simpa using this, HGS.out⟩
          case measure => simp [intOf]; omega
    · obtain rfl : a = s.size := by omega
      rw [rd_end (Nat.le_refl _)] at hgo
      have HG := Lib.hid hgo
      have eqI : ((s.size : Int) == (s.size : Int)) = true := by simp
      clear hgo hgr hrd
      go_wp2_with fail
      go_quiet (fail)
      have hrdq := HRD1.out.drewN nq
      have hgrq := grown_drewN HGR.out nq
      generalize wr.drewN nq = wq at *
      obtain ⟨c0, c1, c2⟩ := hrdq.cells
      have HRDQ := Lib.hid hrdq
      have HGRQ := Lib.hid hgrq
      clear hrdq hgrq
      go_wp2_with fail
      refine (api_Fail' 10 s.size _).mono ?_
      rintro e w5 ⟨u, rfl, hu, hb5⟩
      have hgE := grown_trans HGRQ.out (below_grownBy hb5 _)
      go_wp2_with fail
      go_ret2
      exact ⟨hgE, .inl ⟨10, s.size, u, by rw [HRR.out, ← HG.out], by decide, rfl, hu⟩⟩
end Go.Proofs.Ytakcfgmibijdnaa

/- A string's bytes, as a slice that reads as the string. -/
namespace Go.Proofs.Ytakcfgmibijdnaa
open Go.RowKit

section
variable {P : Program}
theorem wpList_bytes_sl {ops : Array Oper} {rest : List Oper} {o : Oper} {a : Act} {w : World} {Q : Exit → Act → World → Prop} (hgd : o.guard = none) (src dst e : TypeId) (x : Operand)
    (ho : o.op = .convert src dst x) (s : ByteArray) (hx : a.eval x = .string s) (hs : P.underlying src = some .string) (hd : P.underlying dst = some (.slice e)) (he : P.underlying e = some (.int .u8)) (hm : s.size ≤ 140737488351232)
    (h : ∀ (v : Value) (w' : World), BytesSl w' v s → Below w.heap.size w w' → wpList P ops Q rest (a.put o.dst v) w') : wpList P ops Q (o :: rest) a w := by
  refine wpList_plain hgd fun K hK => ?_
  unfold Oper.wp execOp
  have hr := run_bytes_of_string (P := P) w src dst e s hs hd he
  simp only [ho, hx, Sem.run_bind, hr, Result.andThen_ok, Sem.run_pure]
  refine hK _ _ (h _ _ (.inr ⟨w.heap.size, 0, grownCap w s.size 0 e, rfl, grownCap_ge w s.size 0 e, grownCap_le_maxLen w s.size 0 e (by unfold maxLen; omega), by simp, BytesAt.isIn ?_⟩) ((((Below.refl _ _).drew).alloc (Nat.le_refl _) _)))
  refine ⟨e, List.replicate (grownCap w s.size 0 e - s.size) (Value.int .u8 0), _, s.data.toList.length + (List.replicate (grownCap w s.size 0 e - s.size) (Value.int .u8 0)).length + 1, .inr (Nat.le_refl _), ?_⟩
  refine (heap_alloc_new w.drew _).trans ?_
  have hb : bytesRow s (grownCap w s.size 0 e) = (List.map byteV s.data.toList ++ List.replicate (grownCap w s.size 0 e - s.size) (Value.int .u8 0)).toArray := by
    unfold bytesRow
    apply Array.ext'
    simp [byteV]
  have hsz : (bytesRow s (grownCap w s.size 0 e)).size = s.data.toList.length + (List.replicate (grownCap w s.size 0 e - s.size) (Value.int .u8 0)).length := by
    rw [hb]; simp
  rw [hsz, hb]
end
end Go.Proofs.Ytakcfgmibijdnaa

/- puny.Decode. -/
namespace Go.Proofs.Ytakcfgmibijdnaa
open Go.RowKit

theorem byteAt_data {s : ByteArray} {k : Nat} (h : k < s.size) : s.data[k]! = byteAt s k := by
  have : k < s.data.size := h
  rw [getElem!_pos s.data k this]
  simp [byteAt, List.getD]
  rw [Array.getElem?_eq_getElem this]; rfl
theorem lastK_idx (s : ByteArray) : ∀ k, k ≤ s.size → lastK s k = (Lib.lastIdx s 45 k).toNat := by
  intro k
  induction k with
  | zero => intro _; rfl
  | succ k ih =>
    intro hk
    by_cases h : byteAt s k = 45
    · rw [Lib.lastIdx_hit s 45 k (by rw [byteAt_data (by omega), h]; rfl)]
      unfold lastK; rw [if_pos h]; simp
    · rw [Lib.lastIdx_miss s 45 k (by
        rw [byteAt_data (by omega)]
        intro e
        apply h
        apply UInt8.toNat_inj.1
        have : ((byteAt s k).toNat : Int) = ((45 : UInt8).toNat : Int) := e
        omega), ← ih (by omega)]
      rw [lastK, if_neg h]
theorem dec_long {s : ByteArray} {l : Nat} (h : 256 < l) : decD s l = .error (15, if 0 < l then l + 1 else 0) := by unfold decD; rw [if_pos h]
theorem dec_short {s : ByteArray} {l : Nat} (h : ¬ 256 < l) : decD s l = decF s s.size ⟨if 0 < l then l + 1 else 0, 128, 0, 72, true, headN s l⟩ := by unfold decD; rw [if_neg h]
theorem decE_long {s : ByteArray} (h : 1024 < s.size) : decE s = .error (14, 1024) := by unfold decE; rw [if_pos h]
theorem decE_high {s : ByteArray} {j : Nat} (h : ¬ 1024 < s.size) (h2 : highF s (lastK s s.size) 0 = some j) : decE s = .error (11, j) := by unfold decE; rw [if_neg h, h2]
theorem decE_low {s : ByteArray} (h : ¬ 1024 < s.size) (h2 : highF s (lastK s s.size) 0 = none) : decE s = decD s (lastK s s.size) := by unfold decE; rw [if_neg h, h2]
def DecPost (s : ByteArray) (w : World) (e : Ending) (w' : World) : Prop := Below w.heap.size w w' ∧
  ((∃ k j : Nat, ∃ v, decE s = .error (k, j) ∧ k ≠ 0 ∧ e = .returned (.tuple #[.slice none 0 0, v]) ∧ IsFault w' v k j) ∨ ∃ (l : List Nat) (v' : Value), decE s = .ok l ∧ e = .returned (.tuple #[v', .nilIface]) ∧ OwnN w' w.heap.size v' l)
theorem OwnN.base' {w : World} {base base' : Nat} {v : Value} {l : List Nat} (h : OwnN w base v l) (hb : base' ≤ base) : OwnN w base' v l := ownsRow_base h hb
theorem OwnN.below {w w' : World} {base : Nat} {v : Value} {l : List Nat} (h : OwnN w base v l) (hb : Below w.heap.size w w') : OwnN w' base v l := ownsRow_below h hb
theorem OwnN.grown {w w' : World} {base p : Nat} {v : Value} {l : List Nat} (h : OwnN w base v l) (hg : w.grownBy w' (some p)) (hp : p < base) : OwnN w' base v l :=
  World.ownsRow.kept h hg (.inr fun e => by have := (World.ownsRow.lt h p e).1; omega)
theorem OwnN.under {w0 w w' : World} {base : Nat} {v : Value} {l : List Nat} (h : OwnN w base v l) (hb : Below w0.heap.size w0 w) (hB : w0.heap.size ≤ base) (hg : w.grownBy w' v.ownBlock) : Below w0.heap.size w0 w' :=
  hb.grown hg hb.size (fun j hj => Nat.le_trans hB (World.ownsRow.lt h j hj).1)
theorem RdP.grown {w w' : World} {p a b base : Nat} {s : ByteArray} {v : Value} {l : List Nat} (h : RdP w p s a b) (ho : OwnN w base v l) (hp : p < base) (hg : w.grownBy w' v.ownBlock) : RdP w' p s a b :=
  (hg.block p (lt_of_block h) (fun e => by have := (World.ownsRow.lt ho p e.symm).1; omega)).trans h
theorem wpList_app_nat {w : World} {ops : Array Oper} {rest : List Oper} {o : Oper} {a : Act} {Q : Exit → Act → World → Prop} (hgd : o.guard = none) (s x : Operand) (ho : o.op = .call { callee := .builtin .append, args := #[s, x], argTypes := #[23, 23] })
    (base : Nat) (v : Value) (l : List Nat) (hs : a.eval s = v) (hown : OwnN w base v l) (g c : Nat) (p : Nat) (hx : a.eval x = .slice (some ⟨g, 0, none⟩) 1 c) (hb : w.heap[g]? = some (.cells #[intV p] 3 (0, 0)))
    (hl : l.length ≤ 1073741824) (hbase : base ≤ w.heap.size)
    (h : ∀ v' w', OwnN w' base v' (l ++ [p]) → w.grownBy w' v.ownBlock → wpList Try.prog ops Q rest (a.put o.dst v') w') : wpList Try.prog ops Q (o :: rest) a w := by
  obtain ⟨i, hi, hz, hsize, hby⟩ := info_parts info_int
  refine wpList_append_own _ hgd s x 23 ho base 3 i _ 1 8 Try.underlying23 hi hz hsize hby rfl (by decide) v _ _ hs hown _ 1 c [intV p] hx rfl ?_ ?_ (by unfold maxLen; omega) (by omega) hbase ?_
  · intro j u hj
    match j, hj with
    | 0, hj =>
      simp at hj; subst hj
      rw [Addr.add_lit, Nat.zero_add, cell_of_row w g 0 _ _ _ hb]
      rfl
  · intro u hu; simp at hu; subst hu; rfl
  · intro v' w' h1 h2 _
    refine h v' w' ?_ h2
    unfold OwnN
    rw [List.length_append, List.map_append]
    exact h1
end Go.Proofs.Ytakcfgmibijdnaa
