/- puny.Decode. -/
import Derived.Test.YtakcfgmibijdnaaDoorPunyReadsM6
import Derived.Lib.LastIndexByte

namespace Go.Proofs.YtakcfgmibijdnaaDoor
open Go.RowKit

theorem byteAt_data {s : ByteArray} {k : Nat} (h : k < s.size) : s.data[k]! = byteAt s k := by
  have : k < s.data.size := h
  rw [getElem!_pos s.data k this]
  simp [byteAt, List.getD]
  rw [Array.getElem?_eq_getElem this]; rfl
theorem lastK_idx (s : ByteArray) : ∀ k, k ≤ s.size → lastK s k = (Lib.lastIdx s 45 k).toNat := by
  intro k
  induction k with
  | zero => intro _; rfl
  | succ k ih =>
    intro hk
    by_cases h : byteAt s k = 45
    · rw [Lib.lastIdx_hit s 45 k (by rw [byteAt_data (by omega), h]; rfl)]
      unfold lastK; rw [if_pos h]; simp
    · rw [Lib.lastIdx_miss s 45 k (by
        rw [byteAt_data (by omega)]
        intro e
        apply h
        apply UInt8.toNat_inj.1
        have : ((byteAt s k).toNat : Int) = ((45 : UInt8).toNat : Int) := e
        omega), ← ih (by omega)]
      rw [lastK, if_neg h]
theorem dec_long {s : ByteArray} {l : Nat} (h : 256 < l) : decD s l = .error (15, if 0 < l then l + 1 else 0) := by unfold decD; rw [if_pos h]
theorem dec_short {s : ByteArray} {l : Nat} (h : ¬ 256 < l) : decD s l = decF s s.size ⟨if 0 < l then l + 1 else 0, 128, 0, 72, true, headN s l⟩ := by unfold decD; rw [if_neg h]
theorem decE_long {s : ByteArray} (h : 1024 < s.size) : decE s = .error (14, 1024) := by unfold decE; rw [if_pos h]
theorem decE_high {s : ByteArray} {j : Nat} (h : ¬ 1024 < s.size) (h2 : highF s (lastK s s.size) 0 = some j) : decE s = .error (11, j) := by unfold decE; rw [if_neg h, h2]
theorem decE_low {s : ByteArray} (h : ¬ 1024 < s.size) (h2 : highF s (lastK s s.size) 0 = none) : decE s = decD s (lastK s s.size) := by unfold decE; rw [if_neg h, h2]
def DecPost (s : ByteArray) (w : World) (e : Ending) (w' : World) : Prop := Below w.heap.size w w' ∧
  ((∃ k j : Nat, ∃ v, decE s = .error (k, j) ∧ k ≠ 0 ∧ e = .returned (.tuple #[.slice none 0 0, v]) ∧ IsFault w' v k j) ∨ ∃ (l : List Nat) (v' : Value), decE s = .ok l ∧ e = .returned (.tuple #[v', .nilIface]) ∧ OwnN w' w.heap.size v' l)
theorem OwnN.base' {w : World} {base base' : Nat} {v : Value} {l : List Nat} (h : OwnN w base v l) (hb : base' ≤ base) : OwnN w base' v l := ownsRow_base h hb
theorem OwnN.below {w w' : World} {base : Nat} {v : Value} {l : List Nat} (h : OwnN w base v l) (hb : Below w.heap.size w w') : OwnN w' base v l := ownsRow_below h hb
theorem OwnN.grown {w w' : World} {base p : Nat} {v : Value} {l : List Nat} (h : OwnN w base v l) (hg : w.grownBy w' (some p)) (hp : p < base) : OwnN w' base v l :=
  World.ownsRow.kept h hg (.inr fun e => by have := (World.ownsRow.lt h p e).1; omega)
theorem OwnN.under {w0 w w' : World} {base : Nat} {v : Value} {l : List Nat} (h : OwnN w base v l) (hb : Below w0.heap.size w0 w) (hB : w0.heap.size ≤ base) (hg : w.grownBy w' v.ownBlock) : Below w0.heap.size w0 w' :=
  hb.grown hg hb.size (fun j hj => Nat.le_trans hB (World.ownsRow.lt h j hj).1)
theorem RdP.grown {w w' : World} {p a b base : Nat} {s : ByteArray} {v : Value} {l : List Nat} (h : RdP w p s a b) (ho : OwnN w base v l) (hp : p < base) (hg : w.grownBy w' v.ownBlock) : RdP w' p s a b :=
  (hg.block p (lt_of_block h) (fun e => by have := (World.ownsRow.lt ho p e.symm).1; omega)).trans h
theorem wpList_app_nat {w : World} {ops : Array Oper} {rest : List Oper} {o : Oper} {a : Act} {Q : Exit → Act → World → Prop} (hgd : o.guard = none) (s x : Operand) (ho : o.op = .call { callee := .builtin .append, args := #[s, x], argTypes := #[59, 59] })
    (base : Nat) (v : Value) (l : List Nat) (hs : a.eval s = v) (hown : OwnN w base v l) (g c : Nat) (p : Nat) (hx : a.eval x = .slice (some ⟨g, 0, none⟩) 1 c) (hb : w.heap[g]? = some (.cells #[intV p] 3 (0, 0)))
    (hl : l.length ≤ 1073741824) (hbase : base ≤ w.heap.size)
    (h : ∀ v' w', OwnN w' base v' (l ++ [p]) → w.grownBy w' v.ownBlock → wpList Tryd.prog ops Q rest (a.put o.dst v') w') : wpList Tryd.prog ops Q (o :: rest) a w := by
  obtain ⟨i, hi, hz, hsize, hby⟩ := info_parts info_int
  refine wpList_append_own _ hgd s x 59 ho base 3 i _ 1 8 Tryd.underlying59 hi hz hsize hby rfl (by decide) v _ _ hs hown _ 1 c [intV p] hx rfl ?_ ?_ (by unfold maxLen; omega) (by omega) hbase ?_
  · intro j u hj
    match j, hj with
    | 0, hj =>
      simp at hj; subst hj
      rw [Addr.add_lit, Nat.zero_add, cell_of_row w g 0 _ _ _ hb]
      rfl
  · intro u hu; simp at hu; subst hu; rfl
  · intro v' w' h1 h2 _
    refine h v' w' ?_ h2
    unfold OwnN
    rw [List.length_append, List.map_append]
    exact h1
end Go.Proofs.YtakcfgmibijdnaaDoor

/- The reference's value, threshold, number of chapter 09. -/
namespace Go.Proofs.YtakcfgmibijdnaaDoor
open Go.RowKit

def digs09 : ByteArray := ⟨#[97, 98, 99, 100, 101, 102, 103, 104, 105, 106, 107, 108, 109, 110, 111, 112, 113, 114, 115, 116, 117, 118, 119, 120, 121, 122, 48, 49, 50, 51, 52, 53, 54, 55, 56, 57]⟩
def valM (n : Nat) : Nat := if 65 ≤ n ∧ n ≤ 90 then n - 65 else if 97 ≤ n ∧ n ≤ 122 then n - 97 else if 48 ≤ n ∧ n ≤ 57 then n - 48 + 26 else 99
theorem valM_of (c : UInt8) : valN c = if valM c.toNat < 36 then some (valM c.toNat) else none := by
  unfold valN valM
  split
  · rw [if_pos (by omega)]
  · split
    · rw [if_pos (by omega)]
    · split
      · rw [if_pos (by omega)]
      · rw [if_neg (by omega)]
theorem digs09_find (n : Nat) (hn : n < 256) (hg : ¬ (65 ≤ n ∧ n ≤ 90)) : (∀ k, k < 36 → ((digs09.data.toList.getD k 0).toNat = n ↔ valM n = k)) ∧ (valM n < 36 ∨ valM n = 99) := by
  have : ∀ n : Fin 256, ¬ (65 ≤ n.1 ∧ n.1 ≤ 90) → (∀ k : Fin 36, ((digs09.data.toList.getD k.1 0).toNat = n.1 ↔ valM n.1 = k.1)) ∧ (valM n.1 < 36 ∨ valM n.1 = 99) := by decide +kernel
  have h := this ⟨n, hn⟩ hg
  exact ⟨fun k hk => h.1 ⟨k, hk⟩, h.2⟩
def valZ (n : Nat) : Int := if valM n < 36 then (valM n : Int) else -1

set_option maxHeartbeats 1600000 in
set_option maxRecDepth 100000 in
theorem ref09_value (n : Nat) (hn : n < 256) (w : World) : Calls Tryd.prog 113 #[.int .u8 (n : Int)] w fun e w' => e = .returned (.int .i64 (valZ n)) ∧ ∃ q, w.drewN q = w' := by
  by_cases hg : 65 ≤ n ∧ n ≤ 90
  · obtain ⟨g1, g2⟩ := hg
    have g1I : (n : Int) ≥ 65 := by omega
    have g2I : (n : Int) ≤ 90 := by omega
    have hv : valZ n = (n : Int) - 65 := by
      have hm : valM n = n - 65 := by unfold valM; rw [if_pos ⟨g1, g2⟩]
      unfold valZ
      rw [hm, if_pos (by omega)]
      omega
    have HV := Lib.hid hv
    clear hv
    go_enter Tryd.func113, Tryd.ntmps113
    go_wp2_with fail
    go_ret
    exact ⟨ret_i64 (by rw [HV.out]), 0, rfl⟩
  obtain ⟨hf, hv⟩ := digs09_find n hn hg
  have HF := Lib.hid hf
  have HG := Lib.hid hg
  clear hf hg
  by_cases g1 : (n : Int) ≥ 65
  all_goals
    try have g2 : ¬ (n : Int) ≤ 90 := by have := HG.out; omega
    go_enter Tryd.func113, Tryd.ntmps113
    go_wp2_with fail
    go_loopw [3] (fun i wr => ∃ k q : Nat, k ≤ 36 ∧ i = .int .i64 k ∧ (∀ j, j < k → valM n ≠ j) ∧ w.drewN q = wr) (fun i _ => 36 - (intOf i).toNat)
    case atStart => exact ⟨0, 0, by omega, rfl, fun j hj => by omega, rfl⟩
    case round =>
      obtain ⟨k, q, hk, rfl, hall, hwr⟩ := hrel
      have HW := Lib.hid hwr
      have HA := Lib.hid hall
      clear hall hwr
      by_cases hlt : k < 36
      · have hcond := HF.out k hlt
        have i1 : (k : Int) < 36 := by omega
        have hbk : (digs09.data.toList.getD k 0) = (⟨#[97, 98, 99, 100, 101, 102, 103, 104, 105, 106, 107, 108, 109, 110, 111, 112, 113, 114, 115, 116, 117, 118, 119, 120, 121, 122, 48, 49, 50, 51, 52, 53, 54, 55, 56, 57]⟩ : ByteArray)[k]'hlt := by
          simp [digs09, List.getD, hlt]; rfl
        rw [hbk] at hcond
        clear hbk
        by_cases hc : valM n = k
        · have e1 := hcond.2 hc
          have e2 : ((((⟨#[97, 98, 99, 100, 101, 102, 103, 104, 105, 106, 107, 108, 109, 110, 111, 112, 113, 114, 115, 116, 117, 118, 119, 120, 121, 122, 48, 49, 50, 51, 52, 53, 54, 55, 56, 57]⟩ : ByteArray)[k]'hlt).toNat : Int) == (n : Int)) = true := by
            rw [beq_iff_eq]; exact_mod_cast e1
          have HC := Lib.hid hc
          clear hc hcond e1
          go_wp2_with fail
          go_ret
          exact ⟨ret_i64 (by unfold valZ; rw [HC.out, if_pos hlt]), _, HW.out⟩
        · have e2 : ((((⟨#[97, 98, 99, 100, 101, 102, 103, 104, 105, 106, 107, 108, 109, 110, 111, 112, 113, 114, 115, 116, 117, 118, 119, 120, 121, 122, 48, 49, 50, 51, 52, 53, 54, 55, 56, 57]⟩ : ByteArray)[k]'hlt).toNat : Int) == (n : Int)) = false := by
            rw [beq_eq_false_iff_ne]
            intro h
            exact hc (hcond.1 (by exact_mod_cast h))
          have HC := Lib.hid hc
          clear hc hcond
          go_wp2_with fail
          go_roundw
          case rel => exact ⟨k + 1, _, by omega, by go_num, fun j hj => by
            by_cases hjk : j = k
            · subst hjk; exact HC.out
            · exact HA.out j (by omega), HW.out⟩
          case measure => simp [intOf]; omega
      · obtain rfl : k = 36 := by omega
        have h99 : valM n = 99 := by
          rcases hv with h | h
          · exact absurd rfl (HA.out _ h)
          · exact h
        have H99 := Lib.hid h99
        clear h99 hv
        go_wp2_with fail
        go_ret
        exact ⟨ret_i64 (by unfold valZ; rw [H99.out]; rfl), _, HW.out⟩
set_option maxHeartbeats 800000 in
theorem ref09_threshold (k b : Nat) (w : World) (hk : k ≤ 1000000) (hb : b ≤ 1000000000000) :
    Calls Tryd.prog 108 #[.int .i64 (k : Int), .int .i64 (b : Int)] w fun e w' => e = .returned (.int .i64 ((thrN k b : Nat) : Int)) ∧ w = w' := by
  by_cases h1 : (k : Int) - (b : Int) < 1
  · have HT := Lib.hid (show thrN k b = 1 by unfold thrN; omega)
    go_enter Tryd.func108, Tryd.ntmps108
    go_wp2_with fail
    go_ret
    exact ⟨ret_i64 (by rw [HT.out]; rfl), rfl⟩
  by_cases h2 : (k : Int) - (b : Int) > 26
  · have HT := Lib.hid (show thrN k b = 26 by unfold thrN; omega)
    go_enter Tryd.func108, Tryd.ntmps108
    go_wp2_with fail
    go_ret
    exact ⟨ret_i64 (by rw [HT.out]; rfl), rfl⟩
  have HT := Lib.hid (show ((thrN k b : Nat) : Int) = (k : Int) - (b : Int) by unfold thrN; omega)
  go_enter Tryd.func108, Tryd.ntmps108
  go_wp2_with fail
  go_ret
  exact ⟨ret_i64 HT.out.symm, rfl⟩
end Go.Proofs.YtakcfgmibijdnaaDoor

/- The reference's number of chapter 09. -/
namespace Go.Proofs.YtakcfgmibijdnaaDoor
open Go.RowKit

def RNPost (s : ByteArray) (a b : Nat) (w : World) (e : Ending) (w' : World) : Prop := (∃ q, w.drewN q = w') ∧
  ((∃ k j : Nat, rdN s a b = .error (k, j) ∧ k ≠ 0 ∧ e = .returned (.tuple #[.int .i64 0, .int .i64 0, .int .i64 (k : Int), .int .i64 (j : Int)])) ∨
   ∃ i t : Nat, rdN s a b = .ok (i, t) ∧ e = .returned (.tuple #[.int .i64 (i : Int), .int .i64 (t : Int), .int .i64 0, .int .i64 0]))
theorem results_tmp4 {fn : Func} {t u v x : Tmp} (h : fn.results = #[.tmp t, .tmp u, .tmp v, .tmp x]) (tmps : Array Value) (P : Program) (w : World) :
    (results fn tmps).run P w = .ok (.tuple #[tmps.getD t undef, tmps.getD u undef, tmps.getD v undef, tmps.getD x undef]) w := by
  simp [results, h]
theorem valZ_none {c : UInt8} (h : valN c = none) : valZ c.toNat = -1 := by
  rw [valM_of] at h
  unfold valZ
  split at h
  · cases h
  · rw [if_neg (by assumption)]
theorem valZ_some {c : UInt8} {d : Nat} (h : valN c = some d) : valZ c.toNat = (d : Int) := by
  rw [valM_of] at h
  unfold valZ
  split at h
  · injection h with h; rw [if_pos (by assumption), h]
  · cases h
set_option maxHeartbeats 6400000 in
set_option maxRecDepth 100000 in
theorem ref09_number (a0 b : Nat) (s : ByteArray) (w : World) (hs : s.size ≤ 1024) (ha : a0 ≤ s.size) (hb : b ≤ 1000000000000) :
    Calls Tryd.prog 74 #[.string s, .int .i64 (a0 : Int), .int .i64 (b : Int)] w (RNPost s a0 b w) := by
  have HR := Lib.hid (show rdN s a0 b = rdF s b (s.size - a0) a0 0 1 36 from rfl)
  generalize hRR : rdN s a0 b = R at *
  have HRR := Lib.hid hRR
  clear hRR
  go_enter Tryd.func74, Tryd.ntmps74
  go_wp2_with fail
  go_loopw [1, 10, 11, 12] (fun u x y z wr => ∃ a n v k q : Nat, u = .int .i64 a ∧ x = .int .i64 n ∧ y = .int .i64 v ∧ z = .int .i64 k ∧ a ≤ s.size ∧ k = 36 + 36 * (a - a0) ∧ a0 ≤ a ∧ n ≤ 2147483647 ∧ 1 ≤ v ∧ v ≤ 2147483647 ∧ rdF s b (s.size - a) a n v k = R ∧ w.drewN q = wr) (fun _ _ _ z _ => 40000 - (intOf z).toNat)
  case atStart => exact ⟨a0, 0, 1, 36, 0, rfl, rfl, rfl, rfl, ha, by omega, Nat.le_refl _, by omega, by omega, by omega, HR.out.symm, rfl⟩
  case round =>
    obtain ⟨a, n, v, k, q, rfl, rfl, rfl, rfl, hal, hk, haa, hn, hv1, hv2, hgo, hwr⟩ := hrel
    have hk2 : k ≤ 36900 := by omega
    have HK := Lib.hid hk
    have HW := Lib.hid hwr
    clear hk hwr
    by_cases hlt : a < s.size
    · obtain ⟨f', hf'⟩ : ∃ f', s.size - a = f' + 1 := ⟨s.size - a - 1, by omega⟩
      have hf2 : s.size - (a + 1) = f' := by omega
      rw [hf'] at hgo
      have HF2 := Lib.hid hf2
      have hidx : s[a] = byteAt s a := by simp [byteAt, List.getD, hlt]; rfl
      have eqI : ((a : Int) == (s.size : Int)) = false := by rw [beq_eq_false_iff_ne]; omega
      have hltI : (a : Int) < (s.size : Int) := by omega
      have cV := Lib.hid (fun W => ref09_value s[a].toNat (UInt8.toNat_lt _) W)
      clear hf' hf2
      cases hval : valN (byteAt s a) with
      | none =>
        rw [rd_form hlt hval] at hgo
        have HG := Lib.hid hgo
        have cV2 : ∀ W, Calls Tryd.prog 113 #[.int .u8 (s[a].toNat : Int)] W fun e w' => e = .returned (.int .i64 (-1)) ∧ ∃ q, W.drewN q = w' := fun W => by have := cV.out W; rw [hidx, valZ_none hval] at this; rw [hidx]; exact this
        have CV2 := Lib.hid cV2
        clear hgo hval cV2 cV hidx
        go_wp2_with fail
        refine (CV2.out _).mono ?_
        rintro e w2 ⟨rfl, q2, rfl⟩
        go_wp2_with fail
        ((try simp only [Exit.inBlock, Exit.then]); refine bodyPost_ret (results_tmp4 rfl _ _ _) rfl ?_)
        refine ⟨⟨_, by first | exact HW.out | rw [← HW.out, World.drewN_drewN]⟩, .inl ⟨11, a, by rw [HRR.out, ← HG.out], by decide, rfl⟩⟩
      | some d =>
        have hd := valN_lt hval
        have hst1 := rd_far (b := b) (f := f') (n := n) (w := v) (k := k) hlt hval
        have hst2 := rd_ok (b := b) (f := f') (n := n) (w := v) (k := k) hlt hval
        have hst3 := rd_wide (b := b) (f := f') (n := n) (w := v) (k := k) hlt hval
        have hst4 := rd_next (b := b) (f := f') (n := n) (w := v) (k := k) hlt hval
        have cV2 : ∀ W, Calls Tryd.prog 113 #[.int .u8 (s[a].toNat : Int)] W fun e w' => e = .returned (.int .i64 (d : Int)) ∧ ∃ q, W.drewN q = w' := fun W => by have := cV.out W; rw [hidx, valZ_some hval] at this; rw [hidx]; exact this
        have CV2 := Lib.hid cV2
        have hmx := mul_le_max hd hv2
        have ht := thrN_range k b
        have cT := Lib.hid (fun W => ref09_threshold k b W (by omega) hb)
        have hnv : ((n + d * v : Nat) : Int) = (n : Int) + (d : Int) * (v : Int) := by simp
        have hdv : ((d * v : Nat) : Int) = (d : Int) * (v : Int) := by simp
        have hp0 : 0 ≤ (d : Int) * (v : Int) := by rw [← hdv]; exact Int.natCast_nonneg _
        have hp1 : (d : Int) * (v : Int) ≤ 77309411292 := by rw [← hdv]; omega
        have hvt : ((v * (36 - thrN k b) : Nat) : Int) = (v : Int) * (36 - ((thrN k b : Nat) : Int)) := by
          rw [Int.natCast_mul]; congr 1; omega
        have hw0 : 0 ≤ (v : Int) * (36 - ((thrN k b : Nat) : Int)) := by rw [← hvt]; exact Int.natCast_nonneg _
        have hwm : v * (36 - thrN k b) ≤ 2147483647 * 36 := Nat.mul_le_mul hv2 (by omega)
        have hw1 : (v : Int) * (36 - ((thrN k b : Nat) : Int)) ≤ 77309411292 := by rw [← hvt]; omega
        clear hval cV2 cV hidx hwm
        by_cases h3 : 2147483647 < n + d * v
        · rw [hst1 h3] at hgo
          have hqI : (n : Int) + (d : Int) * (v : Int) > 2147483647 := by rw [← hnv]; omega
          have HG := Lib.hid hgo
          clear hgo hst1 hst2 hst3 hst4 h3 hmx hnv hdv hvt hw0 hw1
          go_wp2_with fail
          refine (CV2.out _).mono ?_
          rintro e w2 ⟨rfl, q2, rfl⟩
          go_wp2_with fail
          ((try simp only [Exit.inBlock, Exit.then]); refine bodyPost_ret (results_tmp4 rfl _ _ _) rfl ?_)
          refine ⟨⟨_, by first | exact HW.out | rw [← HW.out, World.drewN_drewN]⟩, .inl ⟨16, a, by rw [HRR.out, ← HG.out], by decide, rfl⟩⟩
        have hqI : ¬ (n : Int) + (d : Int) * (v : Int) > 2147483647 := by rw [← hnv]; omega
        have hnn : n + d * v ≤ 2147483647 := by omega
        by_cases h4 : d < thrN k b
        · rw [hst2 h3 h4] at hgo
          have HG := Lib.hid hgo
          have h4I : (d : Int) < ((thrN k b : Nat) : Int) := by omega
          have HNV := Lib.hid hnv
          clear hgo hst1 hst2 hst3 hst4 hmx hnv hdv h3 hnn h4 hvt hw0 hw1
          generalize thrN k b = t at *
          go_wp2_with fail
          refine (CV2.out _).mono ?_
          rintro e w2 ⟨rfl, q2, rfl⟩
          go_wp2_with fail
          refine (cT.out _).mono ?_
          rintro e w5 ⟨rfl, rfl⟩
          go_wp2_with fail
          ((try simp only [Exit.inBlock, Exit.then]); refine bodyPost_ret (results_tmp4 rfl _ _ _) rfl ?_)
          refine ⟨⟨_, by first | exact HW.out | rw [← HW.out, World.drewN_drewN]⟩, .inr ⟨n + d * v, a + 1, by rw [HRR.out, ← HG.out], by rw [HNV.out]; rfl⟩⟩
        have h4I : ¬ (d : Int) < ((thrN k b : Nat) : Int) := by omega
        by_cases h5 : 2147483647 < v * (36 - thrN k b)
        · rw [hst3 h3 h4 h5] at hgo
          have HG := Lib.hid hgo
          have h5I : (v : Int) * (36 - ((thrN k b : Nat) : Int)) > 2147483647 := by rw [← hvt]; omega
          clear hgo hst1 hst2 hst3 hst4 hmx hnv hdv h3 hnn h4 h5 hvt
          generalize thrN k b = t at *
          go_wp2_with fail
          refine (CV2.out _).mono ?_
          rintro e w2 ⟨rfl, q2, rfl⟩
          go_wp2_with fail
          refine (cT.out _).mono ?_
          rintro e w5 ⟨rfl, rfl⟩
          go_wp2_with fail
          ((try simp only [Exit.inBlock, Exit.then]); refine bodyPost_ret (results_tmp4 rfl _ _ _) rfl ?_)
          refine ⟨⟨_, by first | exact HW.out | rw [← HW.out, World.drewN_drewN]⟩, .inl ⟨16, a, by rw [HRR.out, ← HG.out], by decide, rfl⟩⟩
        · rw [hst4 h3 h4 h5] at hgo
          have HG := Lib.hid hgo
          have h5I : ¬ (v : Int) * (36 - ((thrN k b : Nat) : Int)) > 2147483647 := by rw [← hvt]; omega
          have hv1' : 1 ≤ v * (36 - thrN k b) := Nat.mul_pos (by omega) (by omega)
          have HNV := Lib.hid hnv
          have HVT := Lib.hid hvt
          have HN := Lib.hid hnn
          have H5 := Lib.hid (Nat.not_lt.1 h5)
          have HV1 := Lib.hid hv1'
          clear hgo hst1 hst2 hst3 hst4 hmx hnv hdv h3 hnn h4 h5 hvt hv1'
          generalize thrN k b = t at *
          go_wp2_with fail
          refine (CV2.out _).mono ?_
          rintro e w2 ⟨rfl, q2, rfl⟩
          go_wp2_with fail
          refine (cT.out _).mono ?_
          rintro e w5 ⟨rfl, rfl⟩
          go_wp2_with fail
          go_roundw
          case rel => exact ⟨a + 1, n + d * v, v * (36 - t), k + 36, _, by simp, by rw [HNV.out], by rw [HVT.out], by simp, by omega, by have := HK.out; omega, by omega, HN.out, HV1.out, H5.out, by rw [HF2.out]; exact HG.out, by first | exact HW.out | rw [← HW.out, World.drewN_drewN]⟩
          case measure => simp [intOf]; omega
    · obtain rfl : a = s.size := by omega
      rw [rd_end (Nat.le_refl _)] at hgo
      have HG := Lib.hid hgo
      have eqI : ((s.size : Int) == (s.size : Int)) = true := by simp
      clear hgo
      go_wp2_with fail
      ((try simp only [Exit.inBlock, Exit.then]); refine bodyPost_ret (results_tmp4 rfl _ _ _) rfl ?_)
      refine ⟨⟨_, HW.out⟩, .inl ⟨10, s.size, by rw [HRR.out, ← HG.out], by decide, rfl⟩⟩
end Go.Proofs.YtakcfgmibijdnaaDoor
