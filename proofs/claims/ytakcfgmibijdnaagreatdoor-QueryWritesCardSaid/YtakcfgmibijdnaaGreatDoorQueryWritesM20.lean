/- query.item. -/
import Derived.Test.YtakcfgmibijdnaaGreatDoorQueryWritesM18
import Derived.Test.YtakcfgmibijdnaaGreatDoorQueryWritesM8
import Derived.Test.YtakcfgmibijdnaaGreatDoorQueryWritesM19
import Derived.Test.YtakcfgmibijdnaaGreatDoorQueryWritesM14
import Derived.Test.YtakcfgmibijdnaaGreatDoorQueryWritesM15
import Derived.Deep.Strs
import Derived.OpenShut

namespace Go.Proofs.YtakcfgmibijdnaaGreatDoor
open Go.RowKit

theorem told_lt (s : ByteArray) (i : Nat) (h : (told s).2 = some i) : i ≤ s.size := by
  have : ∀ f j k, j ≤ s.size → (toldFrom s f j).2 = some k → k ≤ s.size := by
    intro f
    induction f with
    | zero => intro j k _ h; simp [toldFrom] at h
    | succ f ih =>
      intro j k hj h
      unfold toldFrom at h
      split at h
      · split at h
        · split at h
          · next h1 h2 h3 => exact ih _ _ (by have := escOk_le h3; omega) h
          · cases h; exact hj
        · next h1 h2 => exact ih _ _ (by omega) h
      · cases h
  exact this s.size 0 i (Nat.zero_le _) h
theorem told_count (s : ByteArray) : ∀ f i, (toldFrom s f i).1.length ≤ f := by
  intro f
  induction f with
  | zero => intro i; simp [toldFrom]
  | succ f ih =>
    intro i
    unfold toldFrom
    split
    · split
      · split
        · have := ih (i + 3); simp; omega
        · simp
      · have := ih (i + 1); simp; omega
    · simp
theorem bytesT_len (s : ByteArray) : (bytesT s).length ≤ s.size := by unfold bytesT; rw [List.length_map]; exact told_count s s.size 0
theorem okS_yes {l : List UInt8} (h : (chrs (ofL l)).2 = none) : okS l = true := by unfold okS; rw [h]; rfl
theorem okS_no {l : List UInt8} {i : Nat} (h : (chrs (ofL l)).2 = some i) : okS l = false := by unfold okS; rw [h]; rfl
def QItemPost (s : ByteArray) (a : Nat) (w : World) (e : Ending) (w' : World) : Prop := Below w.heap.size w w' ∧
  ((∃ x, itemP s = .ok x ∧ e = .returned (.tuple #[.agg #[.string x.name, .string x.value, .bool x.has], .nilIface])) ∨
   (∃ k i n, itemP s = .error (k, i) ∧ ∃ v, e = .returned (.tuple #[.agg #[.string ⟨#[]⟩, .string ⟨#[]⟩, .bool false], v]) ∧ FaultIs w' v (k : Int) ((a + i : Nat) : Int) n))
theorem valid_pay {w : World} {v : Value} {i : Int} (h : IsFault w v 12 i) : v ≠ .nilIface ∧ ∃ t p, v = .iface t p := by
  obtain ⟨p, rfl⟩ := h.ne_nil
  exact ⟨(fun e => by cases e), _, _, rfl⟩
set_option maxHeartbeats 3200000 in
set_option maxRecDepth 100000 in
theorem query_item (s : ByteArray) (a : Nat) (w : World) (hg : Handle w) (hU : Utf8Laid w) (hs : s.size ≤ 4000000) (ha : a ≤ 4000000) : Calls Tryz.prog 72 #[.string s, .int .i64 (a : Int)] w (QItemPost s a w) := by
  have hN := cutN_size 61 s
  have hV := cutV_size 61 s
  have cC := Lib.hid (fun W => strings_Cut1 s 61 W (by omega))
  have cN := Lib.hid (fun W hg => query_decode (cutN 61 s) a W hg (by omega) (by omega) (fun i h => Nat.le_trans (told_lt _ i h) (by omega)))
  have cV := Lib.hid (fun W hg => query_decode (cutV 61 s) (a + (cutN 61 s).size + 1) W hg (by omega) (by omega) (fun i h => Nat.le_trans (told_lt _ i h) (by omega)))
  have HB1 := Lib.hid (fun i h => @itemP_bad1 s i h)
  have HB2 := Lib.hid (fun i h0 h => @itemP_bad2 s i h0 h)
  have HU := Lib.hid (fun h0 h1 h => @itemP_utf s h0 h1 h)
  have HOK := Lib.hid (fun h0 h1 h => @itemP_ok s h0 h1 h)
  have hbn : (bytesT (cutN 61 s)).length ≤ 4000000 := Nat.le_trans (bytesT_len _) (by omega)
  have hbv : (bytesT (cutV 61 s)).length ≤ 4000000 := Nat.le_trans (bytesT_len _) (by omega)
  have hnz : (ofL (bytesT (cutN 61 s))).size ≤ 4000000 := by rw [ofL_size]; exact hbn
  have hvz : (ofL (bytesT (cutV 61 s))).size ≤ 4000000 := by rw [ofL_size]; exact hbv
  clear hbn hbv
  generalize cutH 61 s = hh at *
  generalize cutN 61 s = n at *
  generalize cutV 61 s = v at *
  go_enter Tryz.func72, Tryz.ntmps72
  go_wp2_with fail
  refine (cC.out _).mono ?_
  rintro e w2 ⟨rfl, q, rfl⟩
  have hz2 : ItemAt ((w.alloc (.cells #[.string ⟨#[]⟩, .string ⟨#[]⟩, .bool false] 47)).drewN q) w.heap.size ⟨#[]⟩ ⟨#[]⟩ false := ItemAt.new
  have hb2 : Below w.heap.size w ((w.alloc (.cells #[.string ⟨#[]⟩, .string ⟨#[]⟩, .bool false] 47)).drewN q) := below_drewN ((Below.refl _ _).alloc (Nat.le_refl _) _) q
  generalize (w.alloc (.cells #[.string ⟨#[]⟩, .string ⟨#[]⟩, .bool false] 47)).drewN q = w2 at *
  have hg2 := hg.below hb2
  have hU2 := hU.below hb2
  go_wp2_with fail
  refine (cN.out _ hg2).mono ?_
  rintro e w3 ⟨hb3, h⟩
  have hz3 := hz2.below hb3
  have hb13 := Bt hb2 hb3
  have hg3 := hg2.below hb3
  have hU3 := hU2.below hb3
  clear hb2 hb3 hg2 hU2 hz2 cC cN
  rcases h with ⟨hn, rfl⟩ | ⟨i, m, hi, x, rfl, hx⟩
  · go_wp2_with fail
    have e1 : (a : Int) + (n.size : Int) + 1 = ((a + n.size + 1 : Nat) : Int) := by omega
    rw [e1]
    clear e1
    refine (cV.out _ hg3).mono ?_
    rintro e w4 ⟨hb4, h⟩
    have hz4 := hz3.below hb4
    have hb14 := Bt hb13 hb4
    have hg4 := hg3.below hb4
    have hU4 := hU3.below hb4
    clear hb13 hb4 hg3 hU3 hz3 cV
    rcases h with ⟨hv, rfl⟩ | ⟨i, m, hi, x, rfl, hx⟩
    · have HU' := Lib.hid (HU.out hn hv)
      have HOK' := Lib.hid (HOK.out hn hv)
      clear hn hv HU HOK HB1 HB2
      generalize bytesT n = bn at *
      generalize bytesT v = bv at *
      go_wp2_with (refine wpList_bytes_sl rfl 9 56 5 _ rfl (ofL bn) rfl Tryz.underlying9 Tryz.underlying56 Tryz.underlying5 (by omega) ?_)
      intro v5 w5 hv5 hb5
      have hz5 := hz4.below hb5
      have hb15 := Bt hb14 hb5
      have hU5 := hU4.below hb5
      clear hb14 hb5 hg4 hU4 hz4
      go_wp2_with fail
      refine (utf_Valid v5 (ofL bn) _ hU5 (by omega) hv5).mono ?_
      rintro e w6 ⟨hb6, ho6⟩
      have hz6 := hz5.below hb6
      have hb16 := Bt hb15 hb6
      have hU6 := hU5.below hb6
      obtain ⟨r6, rfl, h6⟩ : ∃ r, e = .returned r ∧ ((r = .nilIface ∧ okS bn = true) ∨ (okS bn = false ∧ ∃ t p, r = .iface t p)) := by
        rcases ho6 with ⟨h, rfl⟩ | ⟨i, h, u, rfl, hu⟩
        · exact ⟨_, rfl, .inl ⟨rfl, okS_yes h⟩⟩
        · exact ⟨_, rfl, .inr ⟨okS_no h, (valid_pay hu).2⟩⟩
      clear hb15 hb6 hU5 hz5 hv5 ho6
      go_wp2_with (refine wpList_bytes_sl rfl 9 56 5 _ rfl (ofL bv) rfl Tryz.underlying9 Tryz.underlying56 Tryz.underlying5 (by omega) ?_)
      intro v7 w7 hv7 hb7
      have hz7 := hz6.below hb7
      have hb17 := Bt hb16 hb7
      have hU7 := hU6.below hb7
      clear hb16 hb7 hU6 hz6
      go_wp2_with fail
      refine (utf_Valid v7 (ofL bv) _ hU7 (by omega) hv7).mono ?_
      rintro e w8 ⟨hb8, ho8⟩
      have hz8 := hz7.below hb8
      have hb18 := Bt hb17 hb8
      obtain ⟨r8, rfl, h8⟩ : ∃ r, e = .returned r ∧ ((r = .nilIface ∧ okS bv = true) ∨ (okS bv = false ∧ ∃ t p, r = .iface t p)) := by
        rcases ho8 with ⟨h, rfl⟩ | ⟨i, h, u, rfl, hu⟩
        · exact ⟨_, rfl, .inl ⟨rfl, okS_yes h⟩⟩
        · exact ⟨_, rfl, .inr ⟨okS_no h, (valid_pay hu).2⟩⟩
      clear hb17 hb8 hU7 hz7 hv7 ho8
      have hz9 := hz8.below ((Below.refl w8.heap.size w8).alloc (Nat.le_refl _) (.cells #[r6, r8] 28))
      have hb19 := hb18.alloc hb18.size (.cells #[r6, r8] 28)
      have d0 : (w8.alloc (.cells #[r6, r8] 28)).cell? ⟨w8.heap.size, 0, none⟩ = some r6 := by simp
      have d1 : (w8.alloc (.cells #[r6, r8] 28)).cell? ⟨w8.heap.size, 1, none⟩ = some r8 := by simp
      have cJ := Lib.hid (errors_Join2 w8.heap.size 2 r6 r8 _ (by simp) d0 d1 (by rcases h6 with ⟨h, _⟩ | ⟨_, h⟩; exact .inl h; exact .inr h) (by rcases h8 with ⟨h, _⟩ | ⟨_, h⟩; exact .inl h; exact .inr h))
      have hok : (r6 = .nilIface ∧ r8 = .nilIface) → okS bn = true ∧ okS bv = true := by
        rintro ⟨rfl, rfl⟩
        rcases h6 with ⟨_, h⟩ | ⟨_, t, p, h⟩
        · rcases h8 with ⟨_, h'⟩ | ⟨_, t, p, h'⟩
          · exact ⟨h, h'⟩
          · cases h'
        · cases h
      have hno : ¬ (r6 = .nilIface ∧ r8 = .nilIface) → ¬ (okS bn = true ∧ okS bv = true) := by
        rintro h ⟨h1, h2⟩
        apply h
        rcases h6 with ⟨h, _⟩ | ⟨h, _⟩
        · rcases h8 with ⟨h', _⟩ | ⟨h', _⟩
          · exact ⟨h, h'⟩
          · rw [h2] at h'; cases h'
        · rw [h1] at h; cases h
      have HOK := Lib.hid (fun h => HOK'.out (hok h))
      have HNO := Lib.hid (fun h => HU'.out (hno h))
      clear hok hno HOK' HU' hb18 hz8 d0 d1
      rcases h6 with ⟨rfl, _⟩ | ⟨_, t1, p1, rfl⟩ <;> rcases h8 with ⟨rfl, _⟩ | ⟨_, t2, p2, rfl⟩
      all_goals
        go_wp2_with fail
        refine cJ.out.mono ?_
        rintro e w10 ⟨hb10, h⟩
        have hz10 := hz9.below hb10
        have hb110 := Bt hb19 hb10
        clear hb19 hb10 hz9 cJ
        rcases h with ⟨hy1, hy2, rfl⟩ | ⟨hy, p, rfl⟩
        · have HE := Lib.hid (HOK.out ⟨hy1, hy2⟩)
          clear hy1 hy2 HOK HNO
          go_wp2_with (refine wpList_store_item (o := ⟨none, _, _, _, _, _⟩) rfl _ _ rfl w.heap.size (ofL bn) (ofL bv) hh rfl rfl ⟨#[]⟩ ⟨#[]⟩ false hz10 ?_; intro hst)
          (try simp only [Exit.inBlock, Exit.then])
          refine bodyPost_ret (results_item rfl rfl hst) rfl ?_
          exact ⟨below_setRowI hb110 (Nat.le_refl _) _, .inl ⟨_, HE.out, rfl⟩⟩
        · have HE := Lib.hid (HNO.out hy)
          clear hy HOK HNO
          go_wp2_with fail
          refine (wrap_fault 12 _ _ _ ⟨_, _, rfl⟩).mono ?_
          rintro e w11 ⟨u, rfl, hu, hb11⟩
          have hz11 := hz10.below hb11
          have hb111 := Bt hb110 hb11
          have HX := Lib.hid hu
          obtain ⟨q, rfl⟩ := hu.ne_nil
          clear hu hb11 hb110 hz10
          go_wp2_with (refine wpList_store_item (o := ⟨none, _, _, _, _, _⟩) rfl _ _ rfl w.heap.size ⟨#[]⟩ ⟨#[]⟩ false rfl rfl ⟨#[]⟩ ⟨#[]⟩ false hz11 ?_; intro hst)
          (try simp only [Exit.inBlock, Exit.then])
          refine bodyPost_ret (results_item rfl rfl hst) rfl ?_
          exact ⟨below_setRowI hb111 (Nat.le_refl _) _, .inr ⟨12, 0, _, HE.out, _, rfl, HX.out.setItem hz11 _⟩⟩
    · obtain ⟨u, rfl⟩ := hx.ne_nil
      have HX := Lib.hid hx
      have HE := Lib.hid (HB2.out i hn hi)
      clear hx hi hn
      go_wp2_with (refine wpList_store_item (o := ⟨none, _, _, _, _, _⟩) rfl _ _ rfl w.heap.size ⟨#[]⟩ ⟨#[]⟩ false rfl rfl ⟨#[]⟩ ⟨#[]⟩ false hz4 ?_; intro hst)
      (try simp only [Exit.inBlock, Exit.then])
      refine bodyPost_ret (results_item rfl rfl hst) rfl ?_
      exact ⟨below_setRowI hb14 (Nat.le_refl _) _, .inr ⟨11, _, m, HE.out, _, rfl, by have := HX.out.setItem hz4 #[.string ⟨#[]⟩, .string ⟨#[]⟩, .bool false]; rw [show a + (n.size + 1 + i) = a + n.size + 1 + i by omega]; exact this⟩⟩
  · obtain ⟨u, rfl⟩ := hx.ne_nil
    have HX := Lib.hid hx
    have HE := Lib.hid (HB1.out i hi)
    clear hx hi
    go_wp2_with (refine wpList_store_item (o := ⟨none, _, _, _, _, _⟩) rfl _ _ rfl w.heap.size ⟨#[]⟩ ⟨#[]⟩ false rfl rfl ⟨#[]⟩ ⟨#[]⟩ false hz3 ?_; intro hst)
    (try simp only [Exit.inBlock, Exit.then])
    refine bodyPost_ret (results_item rfl rfl hst) rfl ?_
    exact ⟨below_setRowI hb13 (Nat.le_refl _) _, .inr ⟨11, i, m, HE.out, _, rfl, HX.out.setItem hz3 _⟩⟩
end Go.Proofs.YtakcfgmibijdnaaGreatDoor

/- query.Items. -/
namespace Go.Proofs.YtakcfgmibijdnaaGreatDoor
open Go.RowKit

def QItemsPost (s : ByteArray) (w : World) (e : Ending) (w' : World) : Prop := Below w.heap.size w w' ∧
  (((itemsQ s).2.1 = 0 ∧ ∃ v, e = .returned (.tuple #[v, .nilIface]) ∧ OwnI w' w.heap.size v (itemsQ s).1) ∨
   ((itemsQ s).2.1 ≠ 0 ∧ ∃ v n, e = .returned (.tuple #[.slice none 0 0, v]) ∧ FaultIs w' v ((itemsQ s).2.1 : Int) ((itemsQ s).2.2 : Int) n))
theorem parts_sum (c : UInt8) (s : ByteArray) : ((partsB c s).map fun p => p.size + 1).sum = s.size + 1 := by
  have h := splitL_len c _ s.data.toList (Nat.le_refl _)
  have hs : s.data.toList.length = s.size := rfl
  unfold partsB
  rw [List.map_map]
  have : ((splitL c s.data.toList).map ((fun p : ByteArray => p.size + 1) ∘ ofL)) = (splitL c s.data.toList).map fun l => l.length + 1 := by
    apply List.map_congr_left
    intro l _
    show (ofL l).size + 1 = _
    rw [ofL_size]
  rw [this, ← hs, ← h]
  generalize splitL c s.data.toList = ls
  induction ls with
  | nil => rfl
  | cons x ls ih => simp only [List.map_cons, List.sum_cons, List.length_cons, ih]; omega
theorem drop_cons' {α : Type} {ps : List α} {i : Nat} {p : α} (h : ps[i]? = some p) : ps.drop i = p :: ps.drop (i + 1) := by
  obtain ⟨hi, rfl⟩ := List.getElem?_eq_some_iff.1 h
  exact List.drop_eq_getElem_cons hi
theorem sum_step {ps : List ByteArray} {i : Nat} {p : ByteArray} (h : ps[i]? = some p) : ((ps.drop i).map fun p => p.size + 1).sum = p.size + 1 + ((ps.drop (i + 1)).map fun p => p.size + 1).sum := by
  rw [drop_cons' h, List.map_cons, List.sum_cons]
set_option maxHeartbeats 3200000 in
set_option maxRecDepth 100000 in
theorem query_Items (s : ByteArray) (w : World) (hg : Handle w) (hU : Utf8Laid w) (hs : s.size ≤ 1000000) : Calls Tryz.prog 36 #[.string s] w (QItemsPost s w) := by
  have cS := Lib.hid (fun W => strings_Split1 s 38 W (by omega))
  have hsum := parts_sum 38 s
  have hsz := partsB_sizes 38 s
  have hlen := partsB_len 38 s
  have hit : itemsQ s = goG stepQ 256 (partsB 38 s) 0 [] := rfl
  have HIT := Lib.hid hit
  have HSZ := Lib.hid hsz
  clear hsz hit
  have hcells := fun W => parts_cells W (partsB 38 s)
  have HCL := Lib.hid hcells
  clear hcells
  generalize partsB 38 s = ps at *
  go_enter Tryz.func36, Tryz.ntmps36
  go_wp2_with fail
  refine (cS.out _).mono ?_
  rintro e w1 ⟨rfl, hw1⟩
  have hb1 : Below w.heap.size w w1 := by rw [← hw1]; exact (Below.refl _ _).alloc (Nat.le_refl _) _
  have hs1 : w.heap.size < w1.heap.size := by rw [← hw1]; simp
  have hc1 := HCL.out w
  rw [hw1] at hc1
  have HC1 := Lib.hid hc1
  have hg1 := hg.below hb1
  have hU1 := hU.below hb1
  clear hw1 HCL hc1
  go_wp2_with fail
  go_loopw [2, 4, 12] (fun v a x wr => ∃ (i at_ : Nat) (acc : List It), i ≤ ps.length ∧ x = .int .i64 i ∧ a = .int .i64 at_ ∧ OwnI wr w1.heap.size v acc ∧ Below w1.heap.size w1 wr ∧ acc.length ≤ 256 ∧ at_ + ((ps.drop i).map fun p => p.size + 1).sum = s.size + 1 ∧ itemsQ s = goG stepQ 256 (ps.drop i) at_ acc) (fun _ _ x _ => ps.length - (intOf x).toNat)
  case atStart => exact ⟨0, 0, [], Nat.zero_le _, rfl, rfl, OwnI.nil _ _, Below.refl _ _, by simp, by simpa using hsum, HIT.out⟩
  case round =>
    obtain ⟨i, at_, acc, hil, rfl, rfl, hown, hbr, hacc, hat, hgo⟩ := hrel
    have hgr := hg1.below hbr
    have hUr := hU1.below hbr
    by_cases hlt : i < ps.length
    · obtain ⟨p, hp⟩ : ∃ p, ps[i]? = some p := ⟨_, List.getElem?_eq_getElem hlt⟩
      have hcell := (hbr.cell (p := ⟨w.heap.size, i, none⟩) hs1).trans (HC1.out i p hp)
      have hpz := HSZ.out p (List.mem_of_getElem? hp)
      have hst := sum_step hp
      rw [drop_cons' hp] at hgo
      rw [hst] at hat
      have hiI : (i : Int) < (ps.length : Int) := by omega
      clear hst hp
      by_cases h0 : p.size = 0
      · have e0 := isEmpty_yes h0
        rw [goG_none (stepQ_empty h0)] at hgo
        have HGO := Lib.hid hgo
        have hat4 : at_ ≤ 4000000 := by omega
        have HAT := Lib.hid hat
        have HL := Lib.hid hacc
        clear hgo hat hgr hUr hacc
        go_wp2_with fail
        go_roundw
        case rel => exact ⟨i + 1, at_ + p.size + 1, acc, by omega, by go_num, by go_num, hown, hbr, HL.out, by have := HAT.out; omega, HGO.out⟩
        case measure => simp [intOf]; omega
      · have e0 := isEmpty_no (Nat.pos_of_ne_zero h0)
        obtain ⟨va, vc, rfl, hvc, hvm, hsl⟩ := hown.sl
        unfold maxLen at hvm
        by_cases h256 : acc.length = 256
        · rw [goG_bad (by rw [decide_eq_true h256]; exact stepQ_many h0), Nat.add_zero] at hgo
          have HGO := Lib.hid hgo
          have eL : ((acc.length : Int) == 256) = true := by rw [beq_iff_eq]; omega
          have hb2 := hb1.trans (hbr.mono (Nat.le_of_lt hs1))
          clear hgo hat hown
          go_wp2_with fail
          refine (api_Fail' _ _ _).mono ?_
          rintro e w3 ⟨u, rfl, hu, hb3⟩
          go_wp2_with fail
          go_ret2
          exact ⟨Bt hb2 hb3, .inr ⟨by rw [HGO.out]; exact (by decide : (15 : Nat) ≠ 0), u, _, rfl, by rw [HGO.out]; exact hu⟩⟩
        · have eL : ((acc.length : Int) == 256) = false := by rw [beq_eq_false_iff_ne]; omega
          have HL : acc.length < 256 := by omega
          have hstep := stepQ_item h0
          have hd := decide_eq_false h256
          have HOK := Lib.hid (fun x h => hgo.trans (goG_ok (x := x) (ps := ps.drop (i + 1)) (at_ := at_) (acc := acc) (p := p) (g := stepQ) (most := 256) (by rw [hd, hstep]; exact congrArg some h)))
          have HBAD := Lib.hid (fun k j h => hgo.trans (goG_bad (k := k) (i := j) (ps := ps.drop (i + 1)) (at_ := at_) (acc := acc) (p := p) (g := stepQ) (most := 256) (by rw [hd, hstep]; exact congrArg some h)))
          have hat4 : at_ ≤ 4000000 := by omega
          have HAT := Lib.hid hat
          clear hgo hat hstep hd h256 h0
          go_wp2_with fail
          refine (query_item p at_ _ hgr hUr (by omega) hat4).mono ?_
          rintro e w3 ⟨hb3, h⟩
          have hbr3 := Bt hbr hb3
          have hown3 := hown.below hb3
          clear hgr hUr
          rcases h with ⟨x, hx, rfl⟩ | ⟨k, j, n, hx, u, rfl, hu⟩
          · have HGO := Lib.hid (HOK.out x hx)
            obtain ⟨xn, xv, xh⟩ := x
            clear hx HOK HBAD hown hbr hb3
            have hbr4 := (hbr3.alloc hbr3.size (.cells #[.string xn, .string xv, .bool xh] 47))
            have hown4 := hown3.below ((Below.refl w3.heap.size w3).alloc (Nat.le_refl _) (.cells #[.string xn, .string xv, .bool xh] 47))
            have hbr5 := hbr4.alloc hbr4.size (.cells #[.string xn, .string xv, .bool xh] 47)
            have hown5 := hown4.below ((Below.refl (w3.alloc (.cells #[.string xn, .string xv, .bool xh] 47)).heap.size (w3.alloc (.cells #[.string xn, .string xv, .bool xh] 47))).alloc (Nat.le_refl _) (.cells #[.string xn, .string xv, .bool xh] 47))
            have hl3 := (ItemAt.new (w := w3) (n := xn) (v := xv) (b := xh)).load
            have hbs := hbr3.size
            clear hown3 hown4 hbr4
            go_wp2_with (at_builtin; refine wpList_app_item rfl (.tmp 32) (.tmp 34) rfl w1.heap.size _ _ rfl hown5 (w3.heap.size + 1) 1 ⟨xn, xv, xh⟩ rfl (by have := heap_alloc_new (w3.alloc (.cells #[.string xn, .string xv, .bool xh] 47)) (.cells #[.string xn, .string xv, .bool xh] 47); rw [World.size_alloc] at this; exact this) (by omega) (by simp; omega) ?_)
            intro v4 w4 hown6 hg4
            have hbr6 := hown5.under hbr5 (Nat.le_refl _) hg4
            clear hown5 hbr5 hg4
            go_wp2_with fail
            go_roundw
            case rel => exact ⟨i + 1, at_ + p.size + 1, acc ++ [⟨xn, xv, xh⟩], by omega, by go_num, by go_num, hown6, hbr6, by simp; omega, by have := HAT.out; omega, HGO.out⟩
            case measure => simp [intOf]; omega
          · have HGO := Lib.hid (HBAD.out k j hx)
            obtain ⟨q, rfl⟩ := hu.ne_nil
            have hk := itemP_kind hx
            have hb2 := hb1.trans (hbr3.mono (Nat.le_of_lt hs1))
            have HK := Lib.hid hk
            have HX := Lib.hid hu
            have hb4 := hb2.alloc hb2.size (.cells #[.string ⟨#[]⟩, .string ⟨#[]⟩, .bool false] 47)
            have hz := (Below.refl w3.heap.size w3).alloc (Nat.le_refl _) (.cells #[.string ⟨#[]⟩, .string ⟨#[]⟩, .bool false] 47)
            clear hx HOK HBAD hown hbr hb3 hk hu hown3 hb2 hbr3
            go_wp2_with fail
            go_ret2
            exact ⟨hb4, .inr ⟨by rw [HGO.out]; show k ≠ 0; have := HK.out; omega, _, n, rfl, by rw [HGO.out]; exact HX.out.below hz⟩⟩
    · obtain rfl : i = ps.length := by omega
      rw [List.drop_length, goG_nil] at hgo
      have HGO := Lib.hid hgo
      have hb2 := hb1.trans (hbr.mono (Nat.le_of_lt hs1))
      have HO := Lib.hid (hown.base' (base' := w.heap.size) (by omega))
      clear hgo hat hown
      go_wp2_with fail
      go_ret2
      exact ⟨hb2, .inl ⟨by rw [HGO.out], _, rfl, by rw [HGO.out]; exact HO.out⟩⟩
end Go.Proofs.YtakcfgmibijdnaaGreatDoor

/- The example of chapter 16's statements. -/
namespace Go.Proofs.YtakcfgmibijdnaaGreatDoor
open Go.RowKit

theorem itemsQ_len (s : ByteArray) : (itemsQ s).1.length ≤ 256 := goG_len stepQ_right _ _ _ (Nat.zero_le _)
theorem itemsQ_empty {s : ByteArray} (h : (itemsQ s).2.1 ≠ 0) : (itemsQ s).1 = [] := goG_empty _ _ _ h
theorem itemsQ_zero {s : ByteArray} (h : (itemsQ s).2.1 = 0) : (itemsQ s).2.2 = 0 := goG_zero stepQ_right _ _ _ h
theorem ItemsOwn.nil (w : World) (a : Option Addr) : ItemsOwn w a [] := fun i p h => by simp at h
/-- Items, and an error, as query.Items gives them. -/
def QItems (s : ByteArray) (w : World) (e : Ending) (w' : World) : Prop := Below w.heap.size w w' ∧ ∃ a c v, e = .returned (.tuple #[.slice a (itemsQ s).1.length c, v]) ∧ (itemsQ s).1.length ≤ c ∧ c ≤ maxLen ∧ ItemsOwn w' a (itemsQ s).1 ∧ IsErr w' v (itemsQ s).2.1 (itemsQ s).2.2
theorem query_Items' (s : ByteArray) (w : World) (hg : Handle w) (hU : Utf8Laid w) (hs : s.size ≤ 1000000) : Calls Tryz.prog 36 #[.string s] w (QItems s w) :=
  (query_Items s w hg hU hs).mono fun e w' ⟨hb, h⟩ => by
    refine ⟨hb, ?_⟩
    rcases h with ⟨hk, v, rfl, hown⟩ | ⟨hk, v, n, rfl, hv⟩
    · obtain ⟨a, c, rfl, h1, h2, h3⟩ := hown.sl
      exact ⟨a, c, _, rfl, h1, h2, h3, .inl ⟨hk, rfl⟩⟩
    · have hn := itemsQ_empty hk
      refine ⟨none, 0, v, ?_, ?_, ?_, ?_, .inr ⟨hk, n, hv⟩⟩
      · rw [hn]; rfl
      · rw [hn]; exact Nat.le_refl _
      · unfold maxLen; omega
      · rw [hn]; exact ItemsOwn.nil _ _
theorem ItemsOwn.lit (w : World) (l : List It) (cs : Array Value) (h : cs = (itemsV l).toArray) : ItemsOwn (w.alloc (.cells cs 47)) (some ⟨w.heap.size, 0, none⟩) l := by
  subst h
  intro i p hp
  have hc : ∀ j, j < 3 → (w.alloc (.cells (itemsV l).toArray 47)).cell? ⟨w.heap.size, i * 3 + j, none⟩ = (itemC p)[j]? := fun j hj => by
    rw [World.cell?_alloc_at _ _ _ _ rfl]
    simpa using itemsV_at hp j hj
  exact ⟨w.heap.size, rfl, by simp, hc 0 (by omega), hc 1 (by omega), hc 2 (by omega)⟩
theorem sp16 : itemsQ ⟨#[97, 61, 49, 38, 38, 98, 38, 37, 54, 51, 61, 37, 54, 52]⟩ = ([⟨⟨#[97]⟩, ⟨#[49]⟩, true⟩, ⟨⟨#[98]⟩, ⟨#[]⟩, false⟩, ⟨⟨#[99]⟩, ⟨#[100]⟩, true⟩], 0, 0) := by decide +kernel
set_option maxHeartbeats 1600000 in
set_option maxRecDepth 100000 in
theorem speaks16 (w : World) (hg : Handle w) (hU : Utf8Laid w) : Calls Tryz.prog 30 #[] w fun e w' => e = .returned (.bool true) ∧ Below w.heap.size w w' := by
  have cI' : ∀ W, Handle W → Utf8Laid W → Calls Tryz.prog 36 #[.string ⟨#[97, 61, 49, 38, 38, 98, 38, 37, 54, 51, 61, 37, 54, 52]⟩] W fun e w' => Below W.heap.size W w' ∧ ∃ a c, e = .returned (.tuple #[.slice a 3 c, .nilIface]) ∧ c ≤ maxLen ∧ ItemsOwn w' a [⟨⟨#[97]⟩, ⟨#[49]⟩, true⟩, ⟨⟨#[98]⟩, ⟨#[]⟩, false⟩, ⟨⟨#[99]⟩, ⟨#[100]⟩, true⟩] := fun W h1 h2 =>
    (query_Items' ⟨#[97, 61, 49, 38, 38, 98, 38, 37, 54, 51, 61, 37, 54, 52]⟩ W h1 h2 (by decide)).mono fun e w' ⟨hb, a, c, v, he, h3, h4, h5, h6⟩ => by
      rw [sp16] at he h5 h6
      rcases h6 with ⟨_, rfl⟩ | ⟨h, _⟩
      · exact ⟨hb, a, c, he, h4, h5⟩
      · exact absurd rfl h
  have cI := Lib.hid cI'
  clear cI'
  go_enter Tryz.func30, Tryz.ntmps30
  go_wp2_with fail
  refine (cI.out _ hg hU).mono ?_
  rintro e w2 ⟨hb2, a, c, rfl, hcm, hsl⟩
  have hb3 := hb2.alloc hb2.size (.cells #[.string ⟨#[97]⟩, .string ⟨#[49]⟩, .bool true, .string ⟨#[98]⟩, .string ⟨#[]⟩, .bool false, .string ⟨#[99]⟩, .string ⟨#[100]⟩, .bool true] 47)
  have hsl3 := hsl.below ((Below.refl w2.heap.size w2).alloc (Nat.le_refl _) (.cells #[.string ⟨#[97]⟩, .string ⟨#[49]⟩, .bool true, .string ⟨#[98]⟩, .string ⟨#[]⟩, .bool false, .string ⟨#[99]⟩, .string ⟨#[100]⟩, .bool true] 47))
  have hlit := ItemsOwn.lit w2 [⟨⟨#[97]⟩, ⟨#[49]⟩, true⟩, ⟨⟨#[98]⟩, ⟨#[]⟩, false⟩, ⟨⟨#[99]⟩, ⟨#[100]⟩, true⟩] #[.string ⟨#[97]⟩, .string ⟨#[49]⟩, .bool true, .string ⟨#[98]⟩, .string ⟨#[]⟩, .bool false, .string ⟨#[99]⟩, .string ⟨#[100]⟩, .bool true] rfl
  have cS := Lib.hid (ref16_Same a c _ 3 _ _ _ hsl3 hlit (by decide) (by decide))
  clear hsl hsl3 hlit
  go_wp2_with fail
  refine cS.out.mono ?_
  rintro e w4 ⟨rfl, q, rfl⟩
  go_wp2_with fail
  go_ret
  exact ⟨rfl, below_drewN hb3 q⟩
end Go.Proofs.YtakcfgmibijdnaaGreatDoor

/- A slice of items that came in. -/
namespace Go.Proofs.YtakcfgmibijdnaaGreatDoor
open Go.RowKit Go.ChangeShapes Go.WideShapes

def sizedI (l : List It) : Prop := ∀ p ∈ l, p.name.size ≤ maxLen ∧ p.value.size ≤ maxLen
theorem cells_item : Tryz.prog.cellsOf 47 = 3 := by kernel_rfl
theorem cells_str : Tryz.prog.cellsOf 9 = 1 := by kernel_rfl
theorem cells_bool : Tryz.prog.cellsOf 4 = 1 := by kernel_rfl
set_option maxRecDepth 100000 in
theorem open_items {H : Type} {enc : TypeId × Value → H} {W : World} {base : Nat} {spare : Nat → Bool} {held : Bool} {fuel : Nat} {cs : List Value} {x : DataW H × List MemPlace} (h : DataW.trod enc Tryz.prog W base spare held fuel 35 cs = some x) :
    ∃ (a : Option Addr) (l : List It) (cap : Nat), cs = [.slice a l.length cap] ∧ l.length ≤ cap ∧ cap ≤ maxLen ∧ ItemsSl W a l ∧ sizedI l := by
  rcases Go.Deep.open_slice Tryz.underlying35 h with ⟨rfl, _⟩ | ⟨a, len, cap, m, n, D, Pl, rfl, hb, hl, hm, hmm, _, hx⟩
  · exact ⟨none, [], 0, rfl, Nat.le_refl _, Nat.zero_le _, fun i p h => by simp at h, fun p h => by cases h⟩
  have hlm : len ≤ m := by rw [hmm]; split <;> omega
  by_cases hlen0 : len = 0
  · subst hlen0
    exact ⟨some a, [], cap, rfl, hl, hm, fun i p h => by simp at h, fun p h => by cases h⟩
  obtain ⟨hspot, hblk⟩ : a = ⟨a.block, a.off, none⟩ ∧ a.block < W.heap.size := by
    obtain ⟨cs', h1, h2⟩ := hx 0 (by omega)
    rw [cells_item] at h1
    obtain ⟨_, hlen, hcell⟩ := World.cells?_some h1
    have c0 := hcell 0 (by omega)
    rw [Go.Deep.add_add, Nat.zero_mul, Nat.add_zero] at c0
    match cs', hlen with
    | [v0, v1, v2], _ => exact spot_none (c0.trans rfl)
  obtain ⟨ab, ao, asp⟩ := a
  obtain rfl : asp = none := by injection hspot
  dsimp only at hblk
  have each : ∀ i, i < len → ∃ p : It, (∃ b off, (⟨ab, ao, none⟩ : Addr) = ⟨b, off, none⟩ ∧ b < W.heap.size ∧
      W.cell? ⟨b, off + i * 3, none⟩ = some (.string p.name) ∧ W.cell? ⟨b, off + i * 3 + 1, none⟩ = some (.string p.value) ∧ W.cell? ⟨b, off + i * 3 + 2, none⟩ = some (.bool p.has)) ∧ p.name.size ≤ maxLen ∧ p.value.size ≤ maxLen := by
    intro i hi
    obtain ⟨cs', h1, h2⟩ := hx i (by omega)
    rw [cells_item] at h1
    obtain ⟨_, hlen, hcell⟩ := World.cells?_some h1
    obtain ⟨y0, y1, y2, k, _, _, g0, g1, g2⟩ := Go.Deep.trod_struct3 Tryz.underlying47 h2
    match cs', hlen with
    | [v0, v1, v2], _ =>
      simp [cells_str, cells_bool] at g0 g1 g2
      obtain ⟨s0, e0, _, z0⟩ := DataW.trod_string Tryz.underlying9 g0
      obtain ⟨s1, e1, _, z1⟩ := DataW.trod_string Tryz.underlying9 g1
      obtain ⟨b2, e2, _⟩ := DataW.trod_bool Tryz.underlying4 g2
      simp at e0 e1 e2
      subst e0 e1 e2
      have c0 := hcell 0 (by omega)
      have c1 := hcell 1 (by omega)
      have c2 := hcell 2 (by omega)
      rw [Go.Deep.add_add] at c0 c1 c2
      rw [Addr.add_lit] at c0 c1 c2
      refine ⟨⟨s0, s1, b2⟩, ⟨ab, ao, rfl, hblk, ?_, ?_, ?_⟩, z0, z1⟩
      · simpa using c0
      · simpa [Nat.add_assoc] using c1
      · simpa [Nat.add_assoc] using c2
  haveI : Inhabited It := ⟨⟨ByteArray.empty, ByteArray.empty, false⟩⟩
  obtain ⟨f, hf⟩ := Go.Deep.choose_lt each
  have hlen : ((List.range len).map f).length = len := by simp
  refine ⟨some ⟨ab, ao, none⟩, (List.range len).map f, cap, by rw [hlen], by rw [hlen]; exact hl, hm, fun i p hp => ?_, fun p hp => ?_⟩
  · have hi : i < len := by have := (List.getElem?_eq_some_iff.1 hp).1; simpa using this
    have : p = f i := by simpa [hi] using hp.symm
    subst this
    obtain ⟨⟨b, off, e, h1, h2, h3, h4⟩, _⟩ := hf i hi
    exact ⟨b, off, congrArg some e, h1, h2, h3, h4⟩
  · obtain ⟨i, hi, rfl⟩ := List.mem_map.1 hp
    exact (hf i (by simpa using hi)).2
end Go.Proofs.YtakcfgmibijdnaaGreatDoor
