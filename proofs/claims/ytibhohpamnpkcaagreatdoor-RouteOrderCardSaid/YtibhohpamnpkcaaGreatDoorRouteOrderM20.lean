/- strings.Cut and strings.Split at a mark of one byte. -/
import Derived.Test.YtibhohpamnpkcaaGreatDoorRouteOrderM9
import Derived.Test.YtibhohpamnpkcaaGreatDoorRouteOrderM1
import Derived.Test.YtibhohpamnpkcaaGreatDoorRouteOrderM16
import Derived.Test.YtibhohpamnpkcaaGreatDoorShelf
import Derived.Shelf.Strings.SplitCore
import Derived.Test.YtibhohpamnpkcaaGreatDoorRouteOrderM19
import Derived.Test.YtibhohpamnpkcaaGreatDoorRouteOrderM10
import Derived.Test.YtibhohpamnpkcaaGreatDoorRouteOrderM6
import Derived.Test.YtibhohpamnpkcaaGreatDoorRouteOrderM5
import Derived.Test.YtibhohpamnpkcaaGreatDoorRouteOrderM18

namespace Go.Proofs.YtibhohpamnpkcaaGreatDoor
open Go.RowKit

theorem cut_full (s : ByteArray) (n : Nat) (h : n = s.size) : s.extract 0 n = s := by
  subst h
  apply ByteArray.ext
  apply Array.ext'
  rw [Lib.extract_data]
  have hl : s.data.toList.length = s.size := rfl
  rw [List.drop_zero, Nat.sub_zero, ← hl, List.take_length]
set_option maxHeartbeats 1600000 in
set_option maxRecDepth 100000 in
theorem lite_Cut1 (s : ByteArray) (c : UInt8) (w : World) (hs : s.size ≤ 16777216) : Calls Tryz.prog 161 #[.string s, .string ⟨#[c]⟩] w fun e w' => e = .returned (.tuple #[.string (cutN c s), .string (cutV c s), .bool (cutH c s)]) ∧ ∃ q, w.drewN q = w' := by
  have cI := Lib.hid (Tryz.stringslite_Index_one s c)
  have h1 : (⟨#[c]⟩ : ByteArray).size = 1 := rfl
  rcases cut_ways c s with ⟨hi, e1, e2, e3, _⟩ | ⟨i, hi, hlt, e1, e2, e3, _⟩
  · rw [e1, e2, e3]
    rw [hi] at cI
    clear hi e1 e2 e3
    go_enter Tryz.func161, Tryz.ntmps161
    go_wp2_with fail
    refine (cI.out _).mono ?_
    rintro e w1 ⟨rfl, rfl⟩
    go_wp2_with fail
    go_ret3
    exact ⟨rfl, 0, rfl⟩
  · rw [e1, e2, e3]
    rw [hi] at cI
    clear hi e1 e2 e3
    go_enter Tryz.func161, Tryz.ntmps161
    go_wp2_with fail
    refine (cI.out _).mono ?_
    rintro e w1 ⟨rfl, rfl⟩
    go_wp2_with fail
    go_quiet (fail)
    go_wp2_with fail
    go_ret3
    exact ⟨rfl, _, rfl⟩
theorem strings_Cut1 (s : ByteArray) (c : UInt8) (w : World) (hs : s.size ≤ 16777216) : Calls Tryz.prog 125 #[.string s, .string ⟨#[c]⟩] w fun e w' => e = .returned (.tuple #[.string (cutN c s), .string (cutV c s), .bool (cutH c s)]) ∧ ∃ q, w.drewN q = w' := by
  have cI := Lib.hid (fun W => lite_Cut1 s c W hs)
  generalize cutN c s = a at *
  generalize cutV c s = b at *
  generalize cutH c s = h at *
  go_enter Tryz.func125, Tryz.ntmps125
  go_wp2_with fail
  refine (cI.out _).mono ?_
  rintro e w1 ⟨rfl, q, rfl⟩
  go_wp2_with fail
  go_ret3
  exact ⟨rfl, _, rfl⟩

theorem split_pieces (c : UInt8) (s : ByteArray) : Lib.splitB ⟨#[c]⟩ 0 (Lib.countB s ⟨#[c]⟩) s = partsB c s := by
  have h := splitB_is c s
  unfold partsB
  rw [← h, List.map_map]
  conv => lhs; rw [← List.map_id (Lib.splitB _ _ _ _)]
  apply List.map_congr_left
  intro x _
  show x = ofL x.data.toList
  exact (ofL_list x).symm
theorem info_str : (Tryz.prog.info? 9).map (fun i => (i.zero, i.size, i.bytes)) = some (some (.string ByteArray.empty), 1, 16) := by kernel_rfl
theorem gen_Split1 (s : ByteArray) (c : UInt8) (w : World) (hs : s.size ≤ 16777216) : Calls Tryz.prog 124 #[.string s, .string ⟨#[c]⟩, .int .i64 0, .int .i64 (-1)] w fun e w' =>
    e = .returned (.slice (some ⟨w.heap.size, 0, none⟩) (partsB c s).length (partsB c s).length) ∧ w' = w.alloc (.cells ((partsB c s).map Value.string).toArray 9) := by
  have h1 : 1 ≤ (⟨#[c]⟩ : ByteArray).size := Nat.le_refl _
  have hle := Lib.countB_le ⟨#[c]⟩ h1 s.size s (Nat.le_refl _)
  have hlen := Lib.splitB_all ⟨#[c]⟩ h1 0 _ s rfl
  have hx : ∀ (x : ByteArray), Lib.indexB x ⟨#[c]⟩ = Lib.indexByte x.data.toList c := fun x => Lib.index_one x.data.toList c
  have hcount : Lib.countB s ⟨#[c]⟩ = Lib.countByte s.data.toList c := Lib.count_one c s.data.toList
  have h := Any.strings_genSplit_core Tryz.lays221 info_str s ⟨#[c]⟩ 0 (-1) (Lib.countB s ⟨#[c]⟩ + 1) w (by omega) h1 (Nat.zero_le _)
    (fun x cs _ => by rw [hx]; exact Tryz.strings_Index_one x c _) (by rw [hcount]; exact Tryz.strings_Count_one s c w) (by decide) (by decide) (by rw [if_pos (by decide)]; omega)
  rw [Nat.add_sub_cancel, hlen] at h
  have e2 : Lib.cellsOf (Lib.splitB ⟨#[c]⟩ 0 (Lib.countB s ⟨#[c]⟩) s) (Lib.countB s ⟨#[c]⟩ + 1) = ((Lib.splitB ⟨#[c]⟩ 0 (Lib.countB s ⟨#[c]⟩) s).map Value.string).toArray := by rw [← hlen]; exact Lib.cellsOf_full _
  rw [e2] at h
  rw [split_pieces] at h hlen
  rw [← hlen] at h
  exact h
theorem strings_Split1 (s : ByteArray) (c : UInt8) (w : World) (hs : s.size ≤ 16777216) : Calls Tryz.prog 89 #[.string s, .string ⟨#[c]⟩] w fun e w' =>
    e = .returned (.slice (some ⟨w.heap.size, 0, none⟩) (partsB c s).length (partsB c s).length) ∧ w.alloc (.cells ((partsB c s).map Value.string).toArray 9) = w' := by
  have cS := Lib.hid (fun W => gen_Split1 s c W hs)
  generalize partsB c s = ps at *
  go_enter Tryz.func89, Tryz.ntmps89
  go_wp2_with fail
  refine (cS.out _).mono ?_
  rintro e w1 ⟨rfl, rfl⟩
  go_wp2_with fail
  go_ret
  exact ⟨rfl, rfl⟩
theorem sum_mem : ∀ (l : List Nat) (x : Nat), x ∈ l → x ≤ l.sum
  | y :: l, x, h => by
    rcases List.mem_cons.1 h with rfl | h
    · rw [List.sum_cons]; omega
    · have := sum_mem l x h; rw [List.sum_cons]; omega
/-- The parts lie in a row. -/
theorem parts_cells (w : World) (ps : List ByteArray) : ∀ i p, ps[i]? = some p → (w.alloc (.cells (ps.map Value.string).toArray 9)).cell? ⟨w.heap.size, i, none⟩ = some (.string p) := by
  intro i p h
  rw [World.cell?_alloc_at _ _ _ _ rfl]
  simp [h]
theorem partsB_sizes (c : UInt8) (s : ByteArray) : ∀ p ∈ partsB c s, p.size ≤ s.size := by
  intro p hp
  unfold partsB at hp
  obtain ⟨l, hl, rfl⟩ := List.mem_map.1 hp
  have h := splitL_len c _ s.data.toList (Nat.le_refl _)
  have hs : s.data.toList.length = s.size := rfl
  have h2 : l.length ≤ ((splitL c s.data.toList).map List.length).sum := sum_mem _ _ (List.mem_map.2 ⟨l, hl, rfl⟩)
  have h3 : 1 ≤ (splitL c s.data.toList).length := List.length_pos_iff.2 (splitL_ne c _)
  rw [ofL_size]
  omega
theorem partsB_len (c : UInt8) (s : ByteArray) : (partsB c s).length ≤ s.size + 1 := by
  have h := splitL_len c _ s.data.toList (Nat.le_refl _)
  have hs : s.data.toList.length = s.size := rfl
  unfold partsB
  rw [List.length_map]
  omega
end Go.Proofs.YtibhohpamnpkcaaGreatDoor

/- query.item. -/
namespace Go.Proofs.YtibhohpamnpkcaaGreatDoor
open Go.RowKit

theorem told_lt (s : ByteArray) (i : Nat) (h : (told s).2 = some i) : i ≤ s.size := by
  have : ∀ f j k, j ≤ s.size → (toldFrom s f j).2 = some k → k ≤ s.size := by
    intro f
    induction f with
    | zero => intro j k _ h; simp [toldFrom] at h
    | succ f ih =>
      intro j k hj h
      unfold toldFrom at h
      split at h
      · split at h
        · split at h
          · next h1 h2 h3 => exact ih _ _ (by have := escOk_le h3; omega) h
          · cases h; exact hj
        · next h1 h2 => exact ih _ _ (by omega) h
      · cases h
  exact this s.size 0 i (Nat.zero_le _) h
theorem told_count (s : ByteArray) : ∀ f i, (toldFrom s f i).1.length ≤ f := by
  intro f
  induction f with
  | zero => intro i; simp [toldFrom]
  | succ f ih =>
    intro i
    unfold toldFrom
    split
    · split
      · split
        · have := ih (i + 3); simp; omega
        · simp
      · have := ih (i + 1); simp; omega
    · simp
theorem bytesT_len (s : ByteArray) : (bytesT s).length ≤ s.size := by unfold bytesT; rw [List.length_map]; exact told_count s s.size 0
theorem okS_yes {l : List UInt8} (h : (chrs (ofL l)).2 = none) : okS l = true := by unfold okS; rw [h]; rfl
theorem okS_no {l : List UInt8} {i : Nat} (h : (chrs (ofL l)).2 = some i) : okS l = false := by unfold okS; rw [h]; rfl
def QItemPost (s : ByteArray) (a : Nat) (w : World) (e : Ending) (w' : World) : Prop := Below w.heap.size w w' ∧
  ((∃ x, itemP s = .ok x ∧ e = .returned (.tuple #[.agg #[.string x.name, .string x.value, .bool x.has], .nilIface])) ∨
   (∃ k i n, itemP s = .error (k, i) ∧ ∃ v, e = .returned (.tuple #[.agg #[.string ⟨#[]⟩, .string ⟨#[]⟩, .bool false], v]) ∧ FaultIs w' v (k : Int) ((a + i : Nat) : Int) n))
theorem valid_pay {w : World} {v : Value} {i : Int} (h : IsFault w v 12 i) : v ≠ .nilIface ∧ ∃ t p, v = .iface t p := by
  obtain ⟨p, rfl⟩ := h.ne_nil
  exact ⟨(fun e => by cases e), _, _, rfl⟩
set_option maxHeartbeats 3200000 in
set_option maxRecDepth 100000 in
theorem query_item (s : ByteArray) (a : Nat) (w : World) (hg : Handle w) (hU : Utf8Laid w) (hs : s.size ≤ 4000000) (ha : a ≤ 4000000) : Calls Tryz.prog 90 #[.string s, .int .i64 (a : Int)] w (QItemPost s a w) := by
  have hN := cutN_size 61 s
  have hV := cutV_size 61 s
  have cC := Lib.hid (fun W => strings_Cut1 s 61 W (by omega))
  have cN := Lib.hid (fun W hg => query_decode (cutN 61 s) a W hg (by omega) (by omega) (fun i h => Nat.le_trans (told_lt _ i h) (by omega)))
  have cV := Lib.hid (fun W hg => query_decode (cutV 61 s) (a + (cutN 61 s).size + 1) W hg (by omega) (by omega) (fun i h => Nat.le_trans (told_lt _ i h) (by omega)))
  have HB1 := Lib.hid (fun i h => @itemP_bad1 s i h)
  have HB2 := Lib.hid (fun i h0 h => @itemP_bad2 s i h0 h)
  have HU := Lib.hid (fun h0 h1 h => @itemP_utf s h0 h1 h)
  have HOK := Lib.hid (fun h0 h1 h => @itemP_ok s h0 h1 h)
  have hbn : (bytesT (cutN 61 s)).length ≤ 4000000 := Nat.le_trans (bytesT_len _) (by omega)
  have hbv : (bytesT (cutV 61 s)).length ≤ 4000000 := Nat.le_trans (bytesT_len _) (by omega)
  have hnz : (ofL (bytesT (cutN 61 s))).size ≤ 4000000 := by rw [ofL_size]; exact hbn
  have hvz : (ofL (bytesT (cutV 61 s))).size ≤ 4000000 := by rw [ofL_size]; exact hbv
  clear hbn hbv
  generalize cutH 61 s = hh at *
  generalize cutN 61 s = n at *
  generalize cutV 61 s = v at *
  go_enter Tryz.func90, Tryz.ntmps90
  go_wp2_with fail
  refine (cC.out _).mono ?_
  rintro e w2 ⟨rfl, q, rfl⟩
  have hz2 : ItemAt ((w.alloc (.cells #[.string ⟨#[]⟩, .string ⟨#[]⟩, .bool false] 102)).drewN q) w.heap.size ⟨#[]⟩ ⟨#[]⟩ false := ItemAt.new
  have hb2 : Below w.heap.size w ((w.alloc (.cells #[.string ⟨#[]⟩, .string ⟨#[]⟩, .bool false] 102)).drewN q) := below_drewN ((Below.refl _ _).alloc (Nat.le_refl _) _) q
  generalize (w.alloc (.cells #[.string ⟨#[]⟩, .string ⟨#[]⟩, .bool false] 102)).drewN q = w2 at *
  have hg2 := hg.below hb2
  have hU2 := hU.below hb2
  go_wp2_with fail
  refine (cN.out _ hg2).mono ?_
  rintro e w3 ⟨hb3, h⟩
  have hz3 := hz2.below hb3
  have hb13 := Bt hb2 hb3
  have hg3 := hg2.below hb3
  have hU3 := hU2.below hb3
  clear hb2 hb3 hg2 hU2 hz2 cC cN
  rcases h with ⟨hn, rfl⟩ | ⟨i, m, hi, x, rfl, hx⟩
  · go_wp2_with fail
    have e1 : (a : Int) + (n.size : Int) + 1 = ((a + n.size + 1 : Nat) : Int) := by omega
    rw [e1]
    clear e1
    refine (cV.out _ hg3).mono ?_
    rintro e w4 ⟨hb4, h⟩
    have hz4 := hz3.below hb4
    have hb14 := Bt hb13 hb4
    have hg4 := hg3.below hb4
    have hU4 := hU3.below hb4
    clear hb13 hb4 hg3 hU3 hz3 cV
    rcases h with ⟨hv, rfl⟩ | ⟨i, m, hi, x, rfl, hx⟩
    · have HU' := Lib.hid (HU.out hn hv)
      have HOK' := Lib.hid (HOK.out hn hv)
      clear hn hv HU HOK HB1 HB2
      generalize bytesT n = bn at *
      generalize bytesT v = bv at *
      go_wp2_with (refine wpList_bytes_sl rfl 9 74 5 _ rfl (ofL bn) rfl Tryz.underlying9 Tryz.underlying74 Tryz.underlying5 (by omega) ?_)
      intro v5 w5 hv5 hb5
      have hz5 := hz4.below hb5
      have hb15 := Bt hb14 hb5
      have hU5 := hU4.below hb5
      clear hb14 hb5 hg4 hU4 hz4
      go_wp2_with fail
      refine (utf_Valid v5 (ofL bn) _ hU5 (by omega) hv5).mono ?_
      rintro e w6 ⟨hb6, ho6⟩
      have hz6 := hz5.below hb6
      have hb16 := Bt hb15 hb6
      have hU6 := hU5.below hb6
      obtain ⟨r6, rfl, h6⟩ : ∃ r, e = .returned r ∧ ((r = .nilIface ∧ okS bn = true) ∨ (okS bn = false ∧ ∃ t p, r = .iface t p)) := by
        rcases ho6 with ⟨h, rfl⟩ | ⟨i, h, u, rfl, hu⟩
        · exact ⟨_, rfl, .inl ⟨rfl, okS_yes h⟩⟩
        · exact ⟨_, rfl, .inr ⟨okS_no h, (valid_pay hu).2⟩⟩
      clear hb15 hb6 hU5 hz5 hv5 ho6
      go_wp2_with (refine wpList_bytes_sl rfl 9 74 5 _ rfl (ofL bv) rfl Tryz.underlying9 Tryz.underlying74 Tryz.underlying5 (by omega) ?_)
      intro v7 w7 hv7 hb7
      have hz7 := hz6.below hb7
      have hb17 := Bt hb16 hb7
      have hU7 := hU6.below hb7
      clear hb16 hb7 hU6 hz6
      go_wp2_with fail
      refine (utf_Valid v7 (ofL bv) _ hU7 (by omega) hv7).mono ?_
      rintro e w8 ⟨hb8, ho8⟩
      have hz8 := hz7.below hb8
      have hb18 := Bt hb17 hb8
      obtain ⟨r8, rfl, h8⟩ : ∃ r, e = .returned r ∧ ((r = .nilIface ∧ okS bv = true) ∨ (okS bv = false ∧ ∃ t p, r = .iface t p)) := by
        rcases ho8 with ⟨h, rfl⟩ | ⟨i, h, u, rfl, hu⟩
        · exact ⟨_, rfl, .inl ⟨rfl, okS_yes h⟩⟩
        · exact ⟨_, rfl, .inr ⟨okS_no h, (valid_pay hu).2⟩⟩
      clear hb17 hb8 hU7 hz7 hv7 ho8
      have hz9 := hz8.below ((Below.refl w8.heap.size w8).alloc (Nat.le_refl _) (.cells #[r6, r8] 42))
      have hb19 := hb18.alloc hb18.size (.cells #[r6, r8] 42)
      have d0 : (w8.alloc (.cells #[r6, r8] 42)).cell? ⟨w8.heap.size, 0, none⟩ = some r6 := by simp
      have d1 : (w8.alloc (.cells #[r6, r8] 42)).cell? ⟨w8.heap.size, 1, none⟩ = some r8 := by simp
      have cJ := Lib.hid (errors_Join2 w8.heap.size 2 r6 r8 _ (by simp) d0 d1 (by rcases h6 with ⟨h, _⟩ | ⟨_, h⟩; exact .inl h; exact .inr h) (by rcases h8 with ⟨h, _⟩ | ⟨_, h⟩; exact .inl h; exact .inr h))
      have hok : (r6 = .nilIface ∧ r8 = .nilIface) → okS bn = true ∧ okS bv = true := by
        rintro ⟨rfl, rfl⟩
        rcases h6 with ⟨_, h⟩ | ⟨_, t, p, h⟩
        · rcases h8 with ⟨_, h'⟩ | ⟨_, t, p, h'⟩
          · exact ⟨h, h'⟩
          · cases h'
        · cases h
      have hno : ¬ (r6 = .nilIface ∧ r8 = .nilIface) → ¬ (okS bn = true ∧ okS bv = true) := by
        rintro h ⟨h1, h2⟩
        apply h
        rcases h6 with ⟨h, _⟩ | ⟨h, _⟩
        · rcases h8 with ⟨h', _⟩ | ⟨h', _⟩
          · exact ⟨h, h'⟩
          · rw [h2] at h'; cases h'
        · rw [h1] at h; cases h
      have HOK := Lib.hid (fun h => HOK'.out (hok h))
      have HNO := Lib.hid (fun h => HU'.out (hno h))
      clear hok hno HOK' HU' hb18 hz8 d0 d1
      rcases h6 with ⟨rfl, _⟩ | ⟨_, t1, p1, rfl⟩ <;> rcases h8 with ⟨rfl, _⟩ | ⟨_, t2, p2, rfl⟩
      all_goals
        go_wp2_with fail
        refine cJ.out.mono ?_
        rintro e w10 ⟨hb10, h⟩
        have hz10 := hz9.below hb10
        have hb110 := Bt hb19 hb10
        clear hb19 hb10 hz9 cJ
        rcases h with ⟨hy1, hy2, rfl⟩ | ⟨hy, p, rfl⟩
        · have HE := Lib.hid (HOK.out ⟨hy1, hy2⟩)
          clear hy1 hy2 HOK HNO
          go_wp2_with (refine wpList_store_item (o := ⟨none, _, _, _, _, _⟩) rfl _ _ rfl w.heap.size (ofL bn) (ofL bv) hh rfl rfl ⟨#[]⟩ ⟨#[]⟩ false hz10 ?_; intro hst)
          (try simp only [Exit.inBlock, Exit.then])
          refine bodyPost_ret (results_item rfl rfl hst) rfl ?_
          exact ⟨below_setRowI hb110 (Nat.le_refl _) _, .inl ⟨_, HE.out, rfl⟩⟩
        · have HE := Lib.hid (HNO.out hy)
          clear hy HOK HNO
          go_wp2_with fail
          refine (wrap_fault 12 _ _ _ ⟨_, _, rfl⟩).mono ?_
          rintro e w11 ⟨u, rfl, hu, hb11⟩
          have hz11 := hz10.below hb11
          have hb111 := Bt hb110 hb11
          have HX := Lib.hid hu
          obtain ⟨q, rfl⟩ := hu.ne_nil
          clear hu hb11 hb110 hz10
          go_wp2_with (refine wpList_store_item (o := ⟨none, _, _, _, _, _⟩) rfl _ _ rfl w.heap.size ⟨#[]⟩ ⟨#[]⟩ false rfl rfl ⟨#[]⟩ ⟨#[]⟩ false hz11 ?_; intro hst)
          (try simp only [Exit.inBlock, Exit.then])
          refine bodyPost_ret (results_item rfl rfl hst) rfl ?_
          exact ⟨below_setRowI hb111 (Nat.le_refl _) _, .inr ⟨12, 0, _, HE.out, _, rfl, HX.out.setItem hz11 _⟩⟩
    · obtain ⟨u, rfl⟩ := hx.ne_nil
      have HX := Lib.hid hx
      have HE := Lib.hid (HB2.out i hn hi)
      clear hx hi hn
      go_wp2_with (refine wpList_store_item (o := ⟨none, _, _, _, _, _⟩) rfl _ _ rfl w.heap.size ⟨#[]⟩ ⟨#[]⟩ false rfl rfl ⟨#[]⟩ ⟨#[]⟩ false hz4 ?_; intro hst)
      (try simp only [Exit.inBlock, Exit.then])
      refine bodyPost_ret (results_item rfl rfl hst) rfl ?_
      exact ⟨below_setRowI hb14 (Nat.le_refl _) _, .inr ⟨11, _, m, HE.out, _, rfl, by have := HX.out.setItem hz4 #[.string ⟨#[]⟩, .string ⟨#[]⟩, .bool false]; rw [show a + (n.size + 1 + i) = a + n.size + 1 + i by omega]; exact this⟩⟩
  · obtain ⟨u, rfl⟩ := hx.ne_nil
    have HX := Lib.hid hx
    have HE := Lib.hid (HB1.out i hi)
    clear hx hi
    go_wp2_with (refine wpList_store_item (o := ⟨none, _, _, _, _, _⟩) rfl _ _ rfl w.heap.size ⟨#[]⟩ ⟨#[]⟩ false rfl rfl ⟨#[]⟩ ⟨#[]⟩ false hz3 ?_; intro hst)
    (try simp only [Exit.inBlock, Exit.then])
    refine bodyPost_ret (results_item rfl rfl hst) rfl ?_
    exact ⟨below_setRowI hb13 (Nat.le_refl _) _, .inr ⟨11, i, m, HE.out, _, rfl, HX.out.setItem hz3 _⟩⟩
end Go.Proofs.YtibhohpamnpkcaaGreatDoor

/- Of the reference of chapter 14: a part's normal form, what is wrong with a text's bytes; of chapter 13: a host that is a name. -/
namespace Go.Proofs.YtibhohpamnpkcaaGreatDoor
open Go.RowKit

set_option maxHeartbeats 1600000 in
theorem ref14_part (s : ByteArray) (a b : Nat) (w : World) (hs : s.size ≤ 16777216) (hab : a ≤ b) (hb : b ≤ s.size) :
    Calls Tryz.prog 60 #[.string s, .int .i64 (a : Int), .int .i64 (b : Int)] w fun e w' => e = .returned (.tuple #[.string (part14 s a b).1, wrV (part14 s a b).2]) ∧ Below w.heap.size w w' := by
  have hz : (s.extract a b).size = b - a := by rw [ByteArray.size_extract]; omega
  have CR := Lib.hid (fun W => ref_Right03 (s.extract a b) W (by omega))
  have CN := Lib.hid (fun W h => ref_Normal (s.extract a b) W (by omega) h)
  have HAL := Lib.hid (below_alloc w (.cells #[.int .i64 0, .int .i64 0, .int .i64 0] 95))
  have HBL := Lib.hid (BlkAt.new w #[.int .i64 0, .int .i64 0, .int .i64 0] 95)
  have i1 : (a : Int) ≤ (b : Int) := by omega
  have i2 : (b : Int) ≤ (s.size : Int) := by omega
  have HTL := Lib.hid (fun i h => told_lt (s.extract a b) i h)
  have HP1 := Lib.hid (fun i (h : (told (s.extract a b)).2 = some i) => (show part14 s a b = (⟨#[]⟩, ⟨11, a + i, 11⟩) by unfold part14; rw [h]))
  have HP2 := Lib.hid (fun (h : (told (s.extract a b)).2 = none) => (show part14 s a b = (normS (s.extract a b), ⟨0, 0, 0⟩) by unfold part14; rw [h]))
  generalize part14 s a b = R at *
  rw [hz] at HTL
  clear hz
  go_enter Tryz.func60, Tryz.ntmps60
  go_wp2_with fail
  refine (CR.out _).mono ?_
  rintro e w2 ⟨⟨q, rfl⟩, h⟩
  have hB2 := below_drewN HAL.out q
  have hK2 : BlkAt ((w.alloc (.cells #[.int .i64 0, .int .i64 0, .int .i64 0] 95)).drewN q) w.heap.size 95 #[.int .i64 0, .int .i64 0, .int .i64 0] := HBL.out
  generalize (w.alloc (.cells #[.int .i64 0, .int .i64 0, .int .i64 0] 95)).drewN q = w2 at *
  rcases h with ⟨hn, rfl⟩ | ⟨i, hi, rfl⟩
  · have C := Lib.hid (CN.out w2 hn)
    have HX := Lib.hid (HP2.out hn)
    generalize normS (s.extract a b) = nm at *
    clear hn HAL HBL
    go_wp2_with fail
    refine C.out.mono ?_
    rintro e w4 ⟨rfl, hb4⟩
    have hB4 := Bt hB2 hb4
    have hK4 := hK2.below hb4
    clear hb4
    go_wp2_with (refine wpList_store_blk rfl _ _ _ rfl w.heap.size #[.int .i64 0, .int .i64 0, .int .i64 0] _ rfl rfl isWr hK4 rfl (by simp [Value.oneCell']) ?_; intro hst)
    refine bodyPost_ret (results_tc rfl rfl hst isWr) rfl ?_
    exact ⟨by rw [HX.out]; rfl, below_setR hB4 (Nat.le_refl _) _⟩
  · have HX := Lib.hid (HP1.out i hi)
    have hil := HTL.out i hi
    clear hi HAL HBL HTL
    go_wp2_with (refine wpList_store_blk rfl _ _ _ rfl w.heap.size #[.int .i64 11, .int .i64 ((a : Int) + (i : Int)), .int .i64 11] _ rfl rfl isWr hK2 rfl (by simp [Value.oneCell']) ?_; intro hst)
    refine bodyPost_ret (results_tc rfl rfl hst isWr) rfl ?_
    exact ⟨by rw [HX.out]; unfold wrV; dsimp only; rw [show ((a + i : Nat) : Int) = (a : Int) + (i : Int) from by omega]; rfl, below_setR hB2 (Nat.le_refl _) _⟩
/-- Nothing is wrong with a text's bytes, ahead of all else. -/
structure Clean (s : ByteArray) : Prop where
  size : s.size ≤ 8192
  chars : (chrs s).2 = none
  signs : ∀ i, i < s.size → 32 < (byteAt s i).toNat ∧ (byteAt s i).toNat ≠ 127
set_option maxHeartbeats 1600000 in
theorem ref14_checks (s : ByteArray) (w : World) (hc : Clean s) :
    Calls Tryz.prog 54 #[.string s] w fun e w' => e = .returned (wrV ⟨0, 0, 0⟩) ∧ Below w.heap.size w w' := by
  obtain ⟨hs, hch, hsg⟩ := hc
  have HCH := Lib.hid hch
  have HSG := Lib.hid hsg
  have e1 : ¬ (8192 : Int) < (s.size : Int) := by omega
  have CC := Lib.hid (fun v W h => ref_Chars v s W (by omega) h)
  have HAL := Lib.hid (below_alloc w (.cells #[.int .i64 0, .int .i64 0, .int .i64 0] 95))
  have HBL := Lib.hid (BlkAt.new w #[.int .i64 0, .int .i64 0, .int .i64 0] 95)
  clear hch hsg
  go_enter Tryz.func54, Tryz.ntmps54
  go_wp2_with ((with_reducible refine wpList_bytes_sl rfl 9 74 5 _ rfl s rfl Tryz.underlying9 Tryz.underlying74 Tryz.underlying5 (by omega) ?_); intro v1 w2 hv1 hb2)
  have hB2 := Bt HAL.out hb2
  have hK2 := HBL.out.below hb2
  refine (CC.out v1 w2 hv1).mono ?_
  rintro e w3 ⟨hb3, h⟩
  have hB3 := Bt hB2 hb3
  have hK3 := hK2.below hb3
  clear hb2 hb3 hB2 hK2 hv1 HAL HBL CC
  rcases h with ⟨-, v, rfl, -⟩ | ⟨i, hi, -⟩
  · go_wp2_with fail
    go_loop [5] (fun x => ∃ i : Nat, i ≤ s.size ∧ x = .int .i64 i) (fun x => s.size - (intOf x).toNat)
    case atStart => exact ⟨0, Nat.zero_le _, rfl⟩
    case round =>
      obtain ⟨i, hil, rfl⟩ := hrel
      by_cases hlt : i < s.size
      · have hb := byteAt_el hlt
        have hg := HSG.out i hlt
        rw [hb] at hg
        have e2 : ¬ (s[i].toNat : Int) ≤ 32 := by omega
        have e3 : ((s[i].toNat : Int) == 127) = false := by rw [beq_eq_false_iff_ne]; omega
        clear hb hg
        go_wp2_with fail
        go_round
        case rel => exact ⟨i + 1, by omega, by go_num⟩
        case measure => simp [intOf]; omega
      · obtain rfl : i = s.size := by omega
        go_wp2_with (refine wpList_store_blk rfl _ _ _ rfl w.heap.size #[.int .i64 0, .int .i64 0, .int .i64 0] _ rfl rfl isWr hK3 rfl (by simp [Value.oneCell']) ?_; intro hst)
        refine bodyPost_ret (results_1c rfl rfl hst isWr) rfl ?_
        exact ⟨rfl, below_setR hB3 (Nat.le_refl _) _⟩
  · have := HCH.out
    rw [hi] at this
    cases this
def hostV (k : Int) (t : ByteArray) : Value := .agg #[.int .i64 k, .string t]
theorem isHost : IsStr 33 2 := ⟨⟨_, Tryz.underlying33⟩, by kernel_rfl⟩
set_option maxHeartbeats 3200000 in
set_option maxRecDepth 100000 in
theorem ref13_Canon_name (s t : ByteArray) (w : World) (hs : s.size ≤ 2000) (h0 : 0 < s.size) (h1 : byteAt s 0 ≠ 91) (h2 : (told s).2 = none) (h3 : ∀ r, NameIs ⟨(bytesT s).toArray⟩ r → r = .ok t) (h4 : numericB t = false) (ht : t.size ≤ 2000) :
    Calls Tryz.prog 82 #[.string s] w fun e w' => e = .returned (.tuple #[hostV 1 t, .int .i64 0, .int .i64 0, .int .i64 0]) ∧ Below w.heap.size w w' := by
  have HAL := Lib.hid (below_alloc w (.cells #[.int .i64 0, .string ⟨#[]⟩] 33))
  have HBL := Lib.hid (BlkAt.new w #[.int .i64 0, .string ⟨#[]⟩] 33)
  have CR := Lib.hid (fun W => ref_Right03 s W (by omega))
  have CD := Lib.hid (fun W => ref_Decode s W (by omega) h2)
  have hbl : (bytesT s).length ≤ s.size := bytesT_len s
  have CN := Lib.hid (fun W => ref10_Name ⟨(bytesT s).toArray⟩ W (by show (bytesT s).toArray.size ≤ _; simp; omega))
  have CQ := Lib.hid (fun W => ref11_Numeric t (by omega) W)
  have e0 : ((s.size : Int) == 0) = false := by rw [beq_eq_false_iff_ne]; omega
  have e1 : ((s[0].toNat : Int) == 91) = false := by
    have := byteAt_el h0
    rw [this] at h1
    rw [beq_eq_false_iff_ne]
    intro e
    apply h1
    have e2 : s[0].toNat = 91 := by omega
    exact UInt8.toNat_inj.1 (by rw [e2]; rfl)
  have H3 := Lib.hid h3
  have H2 := Lib.hid h2
  rw [h4] at CQ
  clear h1 h2 h3 h4
  go_enter Tryz.func82, Tryz.ntmps82
  go_wp2_with fail
  refine (CR.out _).mono ?_
  rintro e w2 ⟨⟨q, rfl⟩, h⟩
  have hB2 := below_drewN HAL.out q
  have hK2 : BlkAt ((w.alloc (.cells #[.int .i64 0, .string ⟨#[]⟩] 33)).drewN q) w.heap.size 33 #[.int .i64 0, .string ⟨#[]⟩] := HBL.out
  generalize (w.alloc (.cells #[.int .i64 0, .string ⟨#[]⟩] 33)).drewN q = w2 at *
  rcases h with ⟨-, rfl⟩ | ⟨i, hi, -⟩
  · clear HAL HBL CR
    go_wp2_with fail
    refine (CD.out _).mono ?_
    rintro e w4 ⟨v, rfl, hown, hb4⟩
    have hB4 := Bt hB2 hb4
    have hK4 := hK2.below hb4
    have hcv := hown.conv
    clear hb4 hown CD hB2 hK2
    go_wp2_with fail
    refine (CN.out _).mono ?_
    rintro e w6 ⟨hb6, h⟩
    have hB6 := Bt hB4 hb6
    have hK6 := hK4.below hb6
    clear hb6 hB4 hK4 hcv
    rcases h with ⟨k, i, hN, rfl⟩ | ⟨t2, hN, rfl⟩
    · have := H3.out _ hN; cases this
    · have := H3.out _ hN
      injection this with this
      subst this
      clear H3 hN CN
      go_wp2_with fail
      refine (CQ.out _).mono ?_
      rintro e w7 ⟨rfl, rfl⟩
      go_wp2_with (refine wpList_store_blk rfl _ _ _ rfl w.heap.size #[.int .i64 1, .string t2] _ rfl rfl isHost hK6 rfl (by simp [Value.oneCell']) ?_; intro hst)
      refine bodyPost_ret (results_cttt rfl rfl hst isHost) rfl ?_
      exact ⟨rfl, below_setR hB6 (Nat.le_refl _) _⟩
  · have := H2.out
    rw [hi] at this
    cases this
end Go.Proofs.YtibhohpamnpkcaaGreatDoor

/- Plain: the language of a pattern's parts, and the states that are reached, step by step. -/
namespace Go.Proofs.YtibhohpamnpkcaaGreatDoor

/-- A part of a pattern. -/
structure GPart where
  char : Nat
  wild : Bool
  many : Bool
def smallC (c : Nat) : Nat := if 65 ≤ c ∧ c ≤ 90 then c + 32 else c
def standsB (p : GPart) (c : Nat) (f : Bool) : Bool := p.wild || (decide (p.char = c) || (f && decide (smallC p.char = smallC c)))
def oneOk (f : Bool) (p : GPart) (u : List Nat) : Prop := if p.many = true then ∀ c ∈ u, standsB p c f = true else ∃ c, u = [c] ∧ standsB p c f = true
/-- The language of parts. -/
def Lang (f : Bool) : List GPart → List Nat → Prop
  | [], u => u = []
  | p :: ps, u => ∃ a b, u = a ++ b ∧ oneOk f p a ∧ Lang f ps b

theorem oneOk_many {f : Bool} {p : GPart} {u : List Nat} (h : p.many = true) : oneOk f p u ↔ ∀ c ∈ u, standsB p c f = true := by unfold oneOk; rw [if_pos h]
theorem oneOk_one {f : Bool} {p : GPart} {u : List Nat} (h : p.many = false) : oneOk f p u ↔ ∃ c, u = [c] ∧ standsB p c f = true := by unfold oneOk; rw [if_neg (by simp [h])]

theorem lang_app (f : Bool) (ps qs : List GPart) (u : List Nat) : Lang f (ps ++ qs) u ↔ ∃ a b, u = a ++ b ∧ Lang f ps a ∧ Lang f qs b := by
  induction ps generalizing u with
  | nil =>
    constructor
    · intro h; exact ⟨[], u, rfl, rfl, h⟩
    · rintro ⟨a, b, rfl, ha, hb⟩
      obtain rfl : a = [] := ha
      exact hb
  | cons p ps ih =>
    constructor
    · rintro ⟨a, b, rfl, h1, h2⟩
      obtain ⟨c, d, rfl, h3, h4⟩ := (ih b).1 h2
      exact ⟨a ++ c, d, by rw [List.append_assoc], ⟨a, c, rfl, h1, h3⟩, h4⟩
    · rintro ⟨a, b, rfl, ⟨c, d, rfl, h1, h3⟩, h4⟩
      exact ⟨c, d ++ b, by rw [List.append_assoc], h1, (ih _).2 ⟨d, b, rfl, h3, h4⟩⟩
theorem lang_one (f : Bool) (p : GPart) (u : List Nat) : Lang f [p] u ↔ oneOk f p u := by
  constructor
  · rintro ⟨a, b, rfl, h, hb⟩
    obtain rfl : b = [] := hb
    simpa using h
  · intro h; exact ⟨u, [], by simp, h, rfl⟩

/-- State i is reached by characters: the parts ahead of it stand for their beginning, and part i, if it may stand for many, for the rest. -/
def Reached (f : Bool) (ps : List GPart) (u : List Nat) (i : Nat) : Prop :=
  ∃ a b, u = a ++ b ∧ Lang f (ps.take i) a ∧ (b = [] ∨ ∃ p, ps[i]? = some p ∧ p.many = true ∧ ∀ c ∈ b, standsB p c f = true)

theorem take_one {ps : List GPart} {i : Nat} {p : GPart} (h : ps[i]? = some p) : ps.take (i + 1) = ps.take i ++ [p] := by
  obtain ⟨hi, rfl⟩ := List.getElem?_eq_some_iff.1 h
  exact List.take_succ_eq_append_getElem hi

theorem reached_all (f : Bool) (ps : List GPart) (u : List Nat) : Reached f ps u ps.length ↔ Lang f ps u := by
  constructor
  · rintro ⟨a, b, rfl, h, hb⟩
    rw [List.take_length] at h
    rcases hb with rfl | ⟨p, hp, _⟩
    · simpa using h
    · simp at hp
  · intro h; exact ⟨u, [], by simp, by rw [List.take_length]; exact h, .inl rfl⟩

theorem reached_nil_zero (f : Bool) (ps : List GPart) : Reached f ps [] 0 := ⟨[], [], rfl, by simp [Lang], .inl rfl⟩
theorem reached_nil_succ {f : Bool} {ps : List GPart} {i : Nat} {p : GPart} (h : ps[i]? = some p) : Reached f ps [] (i + 1) ↔ (Reached f ps [] i ∧ p.many = true) := by
  constructor
  · rintro ⟨a, b, hab, h1, _⟩
    obtain ⟨rfl, rfl⟩ : a = [] ∧ b = [] := by simpa [eq_comm] using hab
    rw [take_one h, lang_app] at h1
    obtain ⟨c, d, hcd, h2, h3⟩ := h1
    obtain ⟨rfl, rfl⟩ : c = [] ∧ d = [] := by simpa [eq_comm] using hcd
    rw [lang_one] at h3
    cases hm : p.many with
    | true => exact ⟨⟨[], [], rfl, h2, .inl rfl⟩, rfl⟩
    | false =>
      obtain ⟨c, hc, _⟩ := (oneOk_one hm).1 h3
      cases hc
  · rintro ⟨⟨a, b, hab, h1, _⟩, hm⟩
    obtain ⟨rfl, rfl⟩ : a = [] ∧ b = [] := by simpa [eq_comm] using hab
    refine ⟨[], [], rfl, ?_, .inl rfl⟩
    rw [take_one h, lang_app]
    exact ⟨[], [], rfl, h1, (lang_one _ _ _).2 ((oneOk_many hm).2 fun c hc => by cases hc)⟩

/-- What a step reaches by itself. -/
def Stepped (f : Bool) (ps : List GPart) (u : List Nat) (c : Nat) (i : Nat) : Prop :=
  (∃ p, ps[i]? = some p ∧ Reached f ps u i ∧ standsB p c f = true ∧ p.many = true) ∨ (∃ j p, i = j + 1 ∧ ps[j]? = some p ∧ Reached f ps u j ∧ standsB p c f = true ∧ p.many = false)

theorem reached_snoc_of {f : Bool} {ps : List GPart} {u : List Nat} {c i : Nat} (h : Stepped f ps u c i) : Reached f ps (u ++ [c]) i := by
  rcases h with ⟨p, hp, ⟨a, b, rfl, h1, hb⟩, hs, hm⟩ | ⟨j, p, rfl, hp, ⟨a, b, rfl, h1, hb⟩, hs, hm⟩
  · refine ⟨a, b ++ [c], by rw [List.append_assoc], h1, .inr ⟨p, hp, hm, fun x hx => ?_⟩⟩
    rcases List.mem_append.1 hx with hx | hx
    · rcases hb with rfl | ⟨q, hq, _, h2⟩
      · cases hx
      · rw [hp] at hq; cases hq
        exact h2 x hx
    · simp at hx; subst hx; exact hs
  · obtain rfl : b = [] := by
      rcases hb with h | ⟨q, hq, h2, _⟩
      · exact h
      · rw [hp] at hq; cases hq
        rw [hm] at h2; cases h2
    refine ⟨a ++ [c], [], by simp, ?_, .inl rfl⟩
    rw [take_one hp, lang_app]
    exact ⟨a, [c], rfl, h1, (lang_one _ _ _).2 ((oneOk_one hm).2 ⟨c, rfl, hs⟩)⟩
theorem reached_skip {f : Bool} {ps : List GPart} {u : List Nat} {i : Nat} {p : GPart} (hp : ps[i]? = some p) (hm : p.many = true) (h : Reached f ps u i) : Reached f ps u (i + 1) := by
  obtain ⟨a, b, rfl, h1, hb⟩ := h
  refine ⟨a ++ b, [], by simp, ?_, .inl rfl⟩
  rw [take_one hp, lang_app]
  refine ⟨a, b, rfl, h1, (lang_one _ _ _).2 ((oneOk_many hm).2 fun x hx => ?_)⟩
  rcases hb with rfl | ⟨q, hq, _, h2⟩
  · cases hx
  · rw [hp] at hq; cases hq
    exact h2 x hx
theorem snoc_split {u a b : List Nat} {c : Nat} (h : u ++ [c] = a ++ b) (hb : b ≠ []) : ∃ b0, b = b0 ++ [c] ∧ u = a ++ b0 := by
  obtain ⟨b0, x, rfl⟩ : ∃ b0 x, b = b0 ++ [x] := ⟨b.dropLast, b.getLast hb, (List.dropLast_concat_getLast hb).symm⟩
  rw [← List.append_assoc] at h
  obtain ⟨h1, h2⟩ := List.append_inj' h rfl
  cases h2
  exact ⟨b0, rfl, h1⟩
theorem reached_snoc {f : Bool} {ps : List GPart} {u : List Nat} {c i : Nat} (hi : i ≤ ps.length) (h : Reached f ps (u ++ [c]) i) :
    Stepped f ps u c i ∨ ∃ j p, i = j + 1 ∧ ps[j]? = some p ∧ p.many = true ∧ Reached f ps (u ++ [c]) j := by
  obtain ⟨a, b, hab, h1, hb⟩ := h
  by_cases hbn : b = []
  · subst hbn
    rw [List.append_nil] at hab
    subst hab
    cases i with
    | zero =>
      rw [List.take_zero] at h1
      exact absurd h1 (by simp [Lang])
    | succ j =>
      have hp : ps[j]? = some (ps[j]'(by omega)) := List.getElem?_eq_getElem (by omega)
      rw [take_one hp, lang_app] at h1
      obtain ⟨a', b', hab, h2, h3⟩ := h1
      rw [lang_one] at h3
      cases hm : (ps[j]'(by omega)).many with
      | true => exact .inr ⟨j, _, rfl, hp, hm, a', b', hab, h2, .inr ⟨_, hp, hm, (oneOk_many hm).1 h3⟩⟩
      | false =>
        obtain ⟨x, rfl, hs⟩ := (oneOk_one hm).1 h3
        obtain ⟨rfl, h4⟩ := List.append_inj' hab rfl
        cases h4
        exact .inl (.inr ⟨j, _, rfl, hp, ⟨u, [], by simp, h2, .inl rfl⟩, hs, hm⟩)
  · rcases hb with hb | ⟨p, hp, hm, hs⟩
    · exact absurd hb hbn
    · obtain ⟨b0, rfl, rfl⟩ := snoc_split hab hbn
      exact .inl (.inl ⟨p, hp, ⟨a, b0, rfl, h1, .inr ⟨p, hp, hm, fun x hx => hs x (by simp [hx])⟩⟩, hs c (by simp), hm⟩)
theorem reached_snoc_zero (f : Bool) (ps : List GPart) (u : List Nat) (c : Nat) : Reached f ps (u ++ [c]) 0 ↔ Stepped f ps u c 0 := by
  constructor
  · intro h
    rcases reached_snoc (Nat.zero_le _) h with h | ⟨j, p, e, _⟩
    · exact h
    · cases e
  · exact reached_snoc_of
theorem reached_snoc_succ {f : Bool} {ps : List GPart} {u : List Nat} {c i : Nat} {p : GPart} (hp : ps[i]? = some p) : Reached f ps (u ++ [c]) (i + 1) ↔ (Stepped f ps u c (i + 1) ∨ (Reached f ps (u ++ [c]) i ∧ p.many = true)) := by
  have hi : i < ps.length := (List.getElem?_eq_some_iff.1 hp).1
  constructor
  · intro h
    rcases reached_snoc (by omega) h with h | ⟨j, q, e, hq, hm, h⟩
    · exact .inl h
    · obtain rfl : i = j := by omega
      rw [hp] at hq; cases hq
      exact .inr ⟨h, hm⟩
  · rintro (h | ⟨h, hm⟩)
    · exact reached_snoc_of h
    · exact reached_skip hp hm h
end Go.Proofs.YtibhohpamnpkcaaGreatDoor

/- Plain: whether characters are in the language of parts, as a function; the parts of a pattern. -/
namespace Go.Proofs.YtibhohpamnpkcaaGreatDoor

def starB (g : List Nat → Bool) (s : Nat → Bool) : List Nat → Bool
  | [] => g []
  | c :: v => g (c :: v) || (s c && starB g s v)
def oneB (g : List Nat → Bool) (s : Nat → Bool) : List Nat → Bool
  | [] => false
  | c :: v => s c && g v
/-- Are characters in the language of parts? -/
def langB (f : Bool) : List GPart → List Nat → Bool
  | [] => fun u => u.isEmpty
  | p :: ps => if p.many = true then starB (langB f ps) (standsB p · f) else oneB (langB f ps) (standsB p · f)

theorem starB_iff (g : List Nat → Bool) (s : Nat → Bool) (u : List Nat) : starB g s u = true ↔ ∃ a b, u = a ++ b ∧ (∀ c ∈ a, s c = true) ∧ g b = true := by
  induction u with
  | nil =>
    unfold starB
    constructor
    · intro h; exact ⟨[], [], rfl, (fun c hc => by cases hc), h⟩
    · rintro ⟨a, b, hab, _, hb⟩
      obtain ⟨rfl, rfl⟩ : a = [] ∧ b = [] := by simpa [eq_comm] using hab
      exact hb
  | cons x u ih =>
    unfold starB
    rw [Bool.or_eq_true, Bool.and_eq_true, ih]
    constructor
    · rintro (h | ⟨h1, a, b, rfl, h2, h3⟩)
      · exact ⟨[], x :: u, rfl, (fun c hc => by cases hc), h⟩
      · refine ⟨x :: a, b, rfl, fun c hc => ?_, h3⟩
        rcases List.mem_cons.1 hc with rfl | hc
        · exact h1
        · exact h2 c hc
    · rintro ⟨a, b, hab, h2, h3⟩
      cases a with
      | nil => simp at hab; subst hab; exact .inl h3
      | cons y a =>
        simp at hab
        obtain ⟨rfl, rfl⟩ := hab
        exact .inr ⟨h2 x (by simp), a, b, rfl, fun c hc => h2 c (by simp [hc]), h3⟩
theorem langB_iff (f : Bool) (ps : List GPart) (u : List Nat) : langB f ps u = true ↔ Lang f ps u := by
  induction ps generalizing u with
  | nil => simp [langB, Lang]
  | cons p ps ih =>
    unfold langB
    cases hm : p.many with
    | true =>
      rw [if_pos rfl, starB_iff]
      constructor
      · rintro ⟨a, b, rfl, h1, h2⟩
        exact ⟨a, b, rfl, (oneOk_many hm).2 h1, (ih b).1 h2⟩
      · rintro ⟨a, b, rfl, h1, h2⟩
        exact ⟨a, b, rfl, (oneOk_many hm).1 h1, (ih b).2 h2⟩
    | false =>
      rw [if_neg (by simp)]
      cases u with
      | nil =>
        simp only [oneB, Bool.false_eq_true, false_iff]
        rintro ⟨a, b, hab, h1, _⟩
        obtain ⟨c, rfl, _⟩ := (oneOk_one hm).1 h1
        simp at hab
      | cons x u =>
        simp only [oneB, Bool.and_eq_true, ih]
        constructor
        · rintro ⟨h1, h2⟩
          exact ⟨[x], u, rfl, (oneOk_one hm).2 ⟨x, rfl, h1⟩, h2⟩
        · rintro ⟨a, b, hab, h1, h2⟩
          obtain ⟨c, rfl, hs⟩ := (oneOk_one hm).1 h1
          simp at hab
          obtain ⟨rfl, rfl⟩ := hab
          exact ⟨hs, h2⟩

/-- The part that a character of a pattern stands for. -/
def partOf (c : Nat) : GPart := if c = 42 then ⟨0, true, true⟩ else if c = 63 then ⟨0, true, false⟩ else ⟨c, false, false⟩
theorem partOf_star : partOf 42 = ⟨0, true, true⟩ := rfl
theorem partOf_one : partOf 63 = ⟨0, true, false⟩ := rfl
theorem partOf_char {c : Nat} (h1 : c ≠ 42) (h2 : c ≠ 63) : partOf c = ⟨c, false, false⟩ := by unfold partOf; rw [if_neg h1, if_neg h2]
theorem stands_wild (c : Nat) (m f : Bool) (x : Nat) : standsB ⟨x, true, m⟩ c f = true := rfl

/-- One row of the reference's table. -/
theorem langB_many (f : Bool) (ps : List GPart) (p : GPart) (hm : p.many = true) : langB f (p :: ps) = starB (langB f ps) (standsB p · f) := by
  rw [langB, if_pos hm]
theorem langB_single (f : Bool) (ps : List GPart) (p : GPart) (hm : p.many = false) : langB f (p :: ps) = oneB (langB f ps) (standsB p · f) := by
  rw [langB, if_neg (by simp [hm])]
theorem langB_star_end (f : Bool) (ps : List GPart) (p : GPart) (hm : p.many = true) : langB f (p :: ps) [] = langB f ps [] := by
  rw [langB_many f ps p hm]; rfl
theorem langB_star_cons (f : Bool) (ps : List GPart) (p : GPart) (hm : p.many = true) (c : Nat) (u : List Nat) : langB f (p :: ps) (c :: u) = (langB f ps (c :: u) || (standsB p c f && langB f (p :: ps) u)) := by
  rw [langB_many f ps p hm]; rfl
theorem langB_one_end (f : Bool) (ps : List GPart) (p : GPart) (hm : p.many = false) : langB f (p :: ps) [] = false := by
  rw [langB_single f ps p hm]; rfl
theorem langB_one_cons (f : Bool) (ps : List GPart) (p : GPart) (hm : p.many = false) (c : Nat) (u : List Nat) : langB f (p :: ps) (c :: u) = (standsB p c f && langB f ps u) := by
  rw [langB_single f ps p hm]; rfl
end Go.Proofs.YtibhohpamnpkcaaGreatDoor
