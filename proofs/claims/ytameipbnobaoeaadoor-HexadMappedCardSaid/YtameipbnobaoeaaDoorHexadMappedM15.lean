/- hexad.Parse, where there is an address. -/
import Derived.Test.YtameipbnobaoeaaDoorHexadMappedM14
import Derived.Laws.CopyOwn

namespace Go.Proofs.YtameipbnobaoeaaDoor
open Go.RowKit

theorem rowL_lt (last : Bool) : ∀ (ps : List ByteArray) {g : List Nat}, rowL last ps = some g → ∀ n ∈ g, n < 65536 := by
  intro ps
  induction ps with
  | nil => intro g h n hn; cases h; cases hn
  | cons p ps ih =>
    intro g h n hn
    rw [rowL] at h
    cases hg : groupH p with
    | some x =>
      rw [hg] at h
      simp only at h
      obtain ⟨l, hl, rfl⟩ := Option.map_eq_some_iff.1 h
      rcases List.mem_cons.1 hn with rfl | hn
      · unfold groupH at hg
        split at hg
        · cases hg
          have := numRes_le p 16 65535
          omega
        · cases hg
      · exact ih hl n hn
    | none =>
      rw [hg] at h
      simp only at h
      split at h
      · cases h
        simp at hn
        omega
      · cases h
theorem rowH_lt {last : Bool} {s : ByteArray} {g : List Nat} (h : rowH last s = some g) : ∀ n ∈ g, n < 65536 := by
  unfold rowH at h
  split at h
  · cases h; intro n hn; cases hn
  · exact rowL_lt last _ h
/-- How a text is read as an address. -/
structure Ways (s : ByteArray) (g : List Nat) (L R : ByteArray) (op : Bool) (a b : List Nat) : Prop where
  cut : ∀ W, MaxAt W → s.size ≤ 16777216 → Calls Tryd.prog 15 #[.string s, .string ⟨#[58, 58]⟩] W fun e w' => e = .returned (.tuple #[.string L, .string R, .bool op]) ∧ Below W.heap.size W w'
  ra : rowH (!op) L = some a
  rb : rowH true R = some b
  fill : g = fillH a b
  zL : L.size ≤ s.size
  zR : R.size ≤ s.size
  cond : (op = false ∧ a.length + b.length = 8 ∧ s.size ≠ 0) ∨ (op = true ∧ a.length + b.length ≤ 7)
theorem cut2_size : ∀ {l a b : List UInt8}, cut2 l = some (a, b) → a.length ≤ l.length ∧ b.length ≤ l.length := by
  intro l
  intro a b h
  rcases index2 l with ⟨h1, _⟩ | ⟨a', b', h1, _, h3⟩
  · rw [h1] at h; cases h
  · rw [h1] at h
    cases h
    rw [h3]
    simp
    omega
theorem parse_ways {s : ByteArray} {g : List Nat} (h : parseH s = some g) : ∃ L R op a b, Ways s g L R op a b := by
  unfold parseH at h
  cases hc : cut2 s.data.toList with
  | none =>
    rw [hc] at h
    simp only at h
    cases ha : rowH true s with
    | none => rw [ha] at h; cases h
    | some a =>
      rw [ha] at h
      simp only at h
      split at h
      · next h8 =>
        cases h
        refine ⟨s, ⟨#[]⟩, false, _, [], fun W hm hs => (strings_Cut2 s W hs hm).mono fun e w' ⟨he, hb⟩ => ⟨by rw [he, hc], hb⟩, ha, rfl, ?_, Nat.le_refl _, Nat.zero_le _, .inl ⟨rfl, by simpa using h8, fun h0 => ?_⟩⟩
        · unfold fillH; rw [h8]; simp
        · rw [show rowH true s = some [] from if_pos h0] at ha
          cases ha
          cases h8
      · cases h
  | some x =>
    obtain ⟨l, r⟩ := x
    rw [hc] at h
    simp only at h
    obtain ⟨z1, z2⟩ := cut2_size hc
    cases ha : rowH false (ofL l) with
    | none => rw [ha] at h; cases h
    | some a =>
      cases hb : rowH true (ofL r) with
      | none => rw [ha, hb] at h; cases h
      | some b =>
        rw [ha, hb] at h
        simp only at h
        split at h
        · next h7 =>
          cases h
          exact ⟨ofL l, ofL r, true, a, b, fun W hm hs => (strings_Cut2 s W hs hm).mono fun e w' ⟨he, hb⟩ => ⟨by rw [he, hc], hb⟩, ha, hb, rfl, by rw [ofL_size]; exact z1, by rw [ofL_size]; exact z2, .inr ⟨rfl, h7⟩⟩
        · cases h
theorem fill_len {a b : List Nat} (h : a.length + b.length ≤ 8) : (fillH a b).length = 8 := by unfold fillH; simp; omega
theorem fill_splice {a b : List Nat} (h : a.length + b.length ≤ 8) : splice (splice (List.replicate 8 (Value.int .u16 0)) 0 (a.map u16V)) (8 - b.length) (b.map u16V) = (fillH a b).map u16V := by
  unfold splice fillH
  simp only [List.take_zero, List.nil_append, List.length_map, Nat.zero_add, List.drop_replicate, List.map_append, List.map_replicate]
  rw [List.take_append, List.take_of_length_le (by rw [List.length_map]; omega), List.drop_eq_nil_of_le (by simp; omega), List.append_nil, List.length_map, List.take_replicate, List.append_assoc]
  rw [show min (8 - b.length - a.length) (8 - a.length) = 8 - a.length - b.length by omega]
  rfl
theorem USl.src {w : World} {p : Option Addr} {l : List Nat} (h : USl w p l) (h0 : 0 < (l.map u16V).length) : ∃ ad, p = some ad ∧ ∀ j v, (l.map u16V)[j]? = some v → w.cell? (ad.add j) = some v := by
  rw [List.length_map] at h0
  obtain ⟨b, off, rfl, _, _⟩ := h 0 l[0] (List.getElem?_eq_getElem h0)
  refine ⟨_, rfl, fun j v hv => ?_⟩
  rw [List.getElem?_map] at hv
  obtain ⟨x, hx, rfl⟩ := Option.map_eq_some_iff.1 hv
  obtain ⟨b', off', e, _, hc⟩ := h j x hx
  cases e
  rw [Addr.add_lit]
  exact hc
theorem u16_one (l : List Nat) : ∀ v ∈ l.map u16V, v.oneCell' = true := by
  intro v hv
  obtain ⟨x, _, rfl⟩ := List.mem_map.1 hv
  rfl
theorem size_u16 : (Tryd.prog.info? 25).map (·.size) = some 1 := by kernel_rfl
theorem results_v6t {fn : Func} {p u : Tmp} {tmps : Array Value} {w : World} {g : Nat} {t : TypeId} {l : List Value} (h : fn.results = #[.cell p 23, .tmp u]) (hp : tmps.getD p undef = .pointer (some ⟨g, 0, none⟩)) (hg : ArrAt w g t l) (hl : l.length = 16) :
    (results fn tmps).run Tryd.prog w = .ok (.tuple #[.agg l.toArray, tmps.getD u undef]) w := by
  rw [results_cell_tmp h, hp]
  simp [asAddr, Result.andThen, hg.load6 hl]
set_option maxHeartbeats 3200000 in
set_option maxRecDepth 100000 in
theorem hexad_Parse (s : ByteArray) (g : List Nat) (w : World) (hs : s.size ≤ 100000) (hg : Handle w) (hm : MaxAt w) (hp : parseH s = some g) :
    Calls Tryd.prog 7 #[.string s] w fun e w' => e = .returned (.tuple #[.agg ((bytesG g).map u8V).toArray, .nilIface]) ∧ Below w.heap.size w w' := by
  obtain ⟨L, R, op, a, b, hW⟩ := parse_ways hp
  have hlen : a.length + b.length ≤ 8 := by rcases hW.cond with ⟨_, h, _⟩ | ⟨_, h⟩ <;> omega
  have hmiss : (op = true ∧ ¬ (8 : Int) - (a.length : Int) - (b.length : Int) < 1) ∨ (op = false ∧ ((8 : Int) - (a.length : Int) - (b.length : Int) != 0) = false ∧ (s.toList == []) = false) := by
    rcases hW.cond with ⟨h1, h2, h3⟩ | ⟨h1, h2⟩
    · refine .inr ⟨h1, by simp; omega, ?_⟩
      have := isEmpty_no (Nat.pos_of_ne_zero h3)
      cases hl : s.toList with
      | nil => rw [hl] at this; cases this
      | cons x l => rfl
    · exact .inl ⟨h1, by omega⟩
  have hga := rowH_lt hW.ra
  have hgb := rowH_lt hW.rb
  have hgl : ∀ n ∈ g, n < 65536 := by
    rw [hW.fill]
    intro n hn
    unfold fillH at hn
    rcases List.mem_append.1 hn with hn | hn
    · exact hga n hn
    · rcases List.mem_append.1 hn with hn | hn
      · rw [List.eq_of_mem_replicate hn]; omega
      · exact hgb n hn
  have hg8 : g.length = 8 := by rw [hW.fill]; exact fill_len hlen
  have hspl : splice (splice (List.replicate 8 (Value.int .u16 0)) 0 (a.map u16V)) (8 - b.length) (b.map u16V) = g.map u16V := by rw [hW.fill]; exact fill_splice hlen
  have HSPL := Lib.hid hspl
  have hzL := hW.zL
  have hzR := hW.zR
  have cC := Lib.hid (fun W h => hW.cut W h (by omega))
  have cA' : ∀ W, Handle W → Calls Tryd.prog 16 #[.string L, .bool (!op)] W fun e w' => Below W.heap.size W w' ∧ ∃ p c, e = .returned (.tuple #[.slice p a.length c, .bool true]) ∧ USl w' p a := fun W h =>
    (hexad_row (!op) L W (by omega) h).mono fun e w' ⟨hb, hr⟩ => by
      refine ⟨hb, ?_⟩
      rcases hr with ⟨l, p, c, hl, he, _, _, hu, _⟩ | ⟨hl, _⟩
      · rw [hW.ra] at hl; cases hl; exact ⟨p, c, he, hu⟩
      · rw [hW.ra] at hl; cases hl
  have cB' : ∀ W, Handle W → Calls Tryd.prog 16 #[.string R, .bool true] W fun e w' => Below W.heap.size W w' ∧ ∃ p c, e = .returned (.tuple #[.slice p b.length c, .bool true]) ∧ USl w' p b := fun W h =>
    (hexad_row true R W (by omega) h).mono fun e w' ⟨hb, hr⟩ => by
      refine ⟨hb, ?_⟩
      rcases hr with ⟨l, p, c, hl, he, _, _, hu, _⟩ | ⟨hl, _⟩
      · rw [hW.rb] at hl; cases hl; exact ⟨p, c, he, hu⟩
      · rw [hW.rb] at hl; cases hl
  have cO' := fun W => hexad_Of g W hg8 hgl
  have cA := Lib.hid cA'
  have cB := Lib.hid cB'
  obtain ⟨x0, x1, x2, x3, x4, x5, x6, x7, hge⟩ := eightM hg8
  obtain ⟨b0, b1, b2, b3, b4, b5, b6, b7, b8, b9, b10, b11, b12, b13, b14, b15, hbe⟩ := sixteen (bytesG_len g)
  rw [hbe, hge] at cO'
  have cO : Hid (∀ W, Calls Tryd.prog 10 #[.agg #[.int .u16 (x0 : Int), .int .u16 (x1 : Int), .int .u16 (x2 : Int), .int .u16 (x3 : Int), .int .u16 (x4 : Int), .int .u16 (x5 : Int), .int .u16 (x6 : Int), .int .u16 (x7 : Int)]] W fun e w' => e = .returned (.agg #[.int .u8 (b0 : Int), .int .u8 (b1 : Int), .int .u8 (b2 : Int), .int .u8 (b3 : Int), .int .u8 (b4 : Int), .int .u8 (b5 : Int), .int .u8 (b6 : Int), .int .u8 (b7 : Int), .int .u8 (b8 : Int), .int .u8 (b9 : Int), .int .u8 (b10 : Int), .int .u8 (b11 : Int), .int .u8 (b12 : Int), .int .u8 (b13 : Int), .int .u8 (b14 : Int), .int .u8 (b15 : Int)]) ∧ Below W.heap.size W w') := Lib.hid cO'
  have HGE := Lib.hid hge
  have HBE := Lib.hid hbe
  have hst1 : Below w.heap.size w (w.alloc (.cells #[.int .u8 0, .int .u8 0, .int .u8 0, .int .u8 0, .int .u8 0, .int .u8 0, .int .u8 0, .int .u8 0, .int .u8 0, .int .u8 0, .int .u8 0, .int .u8 0, .int .u8 0, .int .u8 0, .int .u8 0, .int .u8 0] 23)) := (Below.refl _ _).alloc (Nat.le_refl _) _
  have hP : ArrAt (w.alloc (.cells #[.int .u8 0, .int .u8 0, .int .u8 0, .int .u8 0, .int .u8 0, .int .u8 0, .int .u8 0, .int .u8 0, .int .u8 0, .int .u8 0, .int .u8 0, .int .u8 0, .int .u8 0, .int .u8 0, .int .u8 0, .int .u8 0] 23)) w.heap.size 23 (#[.int .u8 0, .int .u8 0, .int .u8 0, .int .u8 0, .int .u8 0, .int .u8 0, .int .u8 0, .int .u8 0, .int .u8 0, .int .u8 0, .int .u8 0, .int .u8 0, .int .u8 0, .int .u8 0, .int .u8 0, .int .u8 0]).toList := heap_alloc_new w _
  have HM := Lib.hid hmiss
  clear hW cO' cA' cB' hge hbe hmiss hspl hga hgb hgl hp
  go_enter Tryd.func7, Tryd.ntmps7
  go_wp2_with fail
  refine (cC.out _ (hm.below hst1)).mono ?_
  rintro e w2 ⟨rfl, hb2⟩
  have hb12 := Bt hst1 hb2
  have hP2 := hP.below hb2
  clear hst1 hb2 hP cC
  go_wp2_with fail
  refine (cA.out _ (hg.below hb12)).mono ?_
  rintro e w3 ⟨hb3, pa, ca, rfl, hua⟩
  have hb13 := Bt hb12 hb3
  have hP3 := hP2.below hb3
  clear hb12 hb3 hP2 cA
  go_wp2_with fail
  refine (cB.out _ (hg.below hb13)).mono ?_
  rintro e w4 ⟨hb4, pb, cb, rfl, hub⟩
  have hb14 := Bt hb13 hb4
  have hP4 := hP3.below hb4
  have hua4 := hua.below hb4
  clear hb13 hb4 hP3 cB hua
  have hstG : Below w4.heap.size w4 (w4.alloc (.cells #[.int .u16 0, .int .u16 0, .int .u16 0, .int .u16 0, .int .u16 0, .int .u16 0, .int .u16 0, .int .u16 0] 26)) := (Below.refl _ _).alloc (Nat.le_refl _) _
  have hG5 : (w4.alloc (.cells #[.int .u16 0, .int .u16 0, .int .u16 0, .int .u16 0, .int .u16 0, .int .u16 0, .int .u16 0, .int .u16 0] 26)).heap[w4.heap.size]? = some (.cells (List.replicate 8 (Value.int .u16 0)).toArray 26 (0, 0)) := heap_alloc_new w4 _
  have hb15 := Bt hb14 hstG
  have hP5 := hP4.below hstG
  have hua5 := hua4.below hstG
  have hub5 := hub.below hstG
  have hNG : w.heap.size < w4.heap.size := Nat.lt_of_lt_of_le hP4.lt (Nat.le_refl _)
  have sA := slAll8 w4.heap.size
  have sT : ∀ W, (Instr.sliceAt 26 (.pointer (some ⟨w4.heap.size, 0, none⟩)) (some (.int .i64 ((8 : Int) - (b.length : Int)))) none none).run Tryd.prog W = .ok (.slice (some ⟨w4.heap.size, if 8 = 8 - b.length then 0 else 8 - b.length, none⟩) b.length b.length) W := fun W => by
    have := slTail8 w4.heap.size (8 - b.length) (by omega) W
    rw [show ((8 - b.length : Nat) : Int) = (8 : Int) - (b.length : Int) by omega, show 8 - (8 - b.length) = b.length by omega] at this
    exact this
  have hkk : 0 < (b.map u16V).length → (if 8 = 8 - b.length then 0 else 8 - b.length) = 8 - b.length := fun h => by rw [List.length_map] at h; rw [if_neg (by omega)]
  have HKK := Lib.hid hkk
  clear hkk hua4 hstG hP5 hub5
  generalize (if 8 = 8 - b.length then 0 else 8 - b.length) = kk at *
  have hmin : Nat.min a.length 8 = a.length := Nat.min_eq_left (by omega)
  have hminb : Nat.min b.length b.length = b.length := Nat.min_self _
  rcases HM.out with ⟨rfl, hm1⟩ | ⟨rfl, hm1, hm2⟩
  all_goals
    go_wp2_with (first | (refine wpList_copy_splice rfl _ _ 45 45 rfl 25 Tryd.underlying45 size_u16 _ pa 8 8 a.length ca rfl rfl w4.heap.size 0 (List.replicate 8 (Value.int .u16 0)) 26 hG5 (a.map u16V) (by rw [List.length_map]; exact hmin.symm) (fun h0 => ⟨rfl, hua5.src h0⟩) (by rw [List.length_map, List.length_replicate]; omega) (u16_one a) w4.heap.size w4 ((Below.refl _ _).alloc (Nat.le_refl _) _) (Nat.le_refl _) ?_; intro w7 HG7 hb7; have hub7 := hub.below hb7) | (refine wpList_copy_splice rfl _ _ 45 45 rfl 25 Tryd.underlying45 size_u16 _ pb b.length b.length b.length cb rfl rfl w4.heap.size (8 - b.length) (splice (List.replicate 8 (Value.int .u16 0)) 0 (a.map u16V)) 26 HG7.out (b.map u16V) (by rw [List.length_map]; exact hminb.symm) (fun h0 => ⟨by rw [HKK.out h0], hub7.src h0⟩) (by rw [length_splice _ _ _ (by rw [List.length_map, List.length_replicate]; omega), List.length_map, List.length_replicate]; omega) (u16_one b) w4.heap.size w4 hb7 (Nat.le_refl _) ?_; intro w8 HG8 hb8; have hR9 : ArrAt w8 w4.heap.size 26 (g.map u16V) := (by have := HG8.out; rw [HSPL.out] at this; exact this); have L9 := hR9.load8 (by rw [List.length_map, hg8]); have y0 := hR9.cell (i := 0) (v := .int .u16 (x0 : Int)) (by rw [HGE.out]; rfl); have y1 := hR9.cell (i := 1) (v := .int .u16 (x1 : Int)) (by rw [HGE.out]; rfl); have y2 := hR9.cell (i := 2) (v := .int .u16 (x2 : Int)) (by rw [HGE.out]; rfl); have y3 := hR9.cell (i := 3) (v := .int .u16 (x3 : Int)) (by rw [HGE.out]; rfl); have y4 := hR9.cell (i := 4) (v := .int .u16 (x4 : Int)) (by rw [HGE.out]; rfl); have y5 := hR9.cell (i := 5) (v := .int .u16 (x5 : Int)) (by rw [HGE.out]; rfl); have y6 := hR9.cell (i := 6) (v := .int .u16 (x6 : Int)) (by rw [HGE.out]; rfl); have y7 := hR9.cell (i := 7) (v := .int .u16 (x7 : Int)) (by rw [HGE.out]; rfl)))
    have hb18 : Below w.heap.size w w8 := hb14.trans (hb8.mono (by omega))
    have hP8 := hP4.below hb8
    have hz16 : (#[.int .u8 0, .int .u8 0, .int .u8 0, .int .u8 0, .int .u8 0, .int .u8 0, .int .u8 0, .int .u8 0, .int .u8 0, .int .u8 0, .int .u8 0, .int .u8 0, .int .u8 0, .int .u8 0, .int .u8 0, .int .u8 0] : Array Value).toList.length = 16 := rfl
    refine (cO.out _).mono ?_
    rintro e w10 ⟨rfl, hb10⟩
    have hb110 := Bt hb18 hb10
    have hP10 : w10.heap[w.heap.size]? = some (.cells #[.int .u8 0, .int .u8 0, .int .u8 0, .int .u8 0, .int .u8 0, .int .u8 0, .int .u8 0, .int .u8 0, .int .u8 0, .int .u8 0, .int .u8 0, .int .u8 0, .int .u8 0, .int .u8 0, .int .u8 0, .int .u8 0] 23 (0, 0)) := hP8.below hb10
    have hset := setRow_heap w10 w.heap.size #[.int .u8 0, .int .u8 0, .int .u8 0, .int .u8 0, .int .u8 0, .int .u8 0, .int .u8 0, .int .u8 0, .int .u8 0, .int .u8 0, .int .u8 0, .int .u8 0, .int .u8 0, .int .u8 0, .int .u8 0, .int .u8 0] #[.int .u8 (b0 : Int), .int .u8 (b1 : Int), .int .u8 (b2 : Int), .int .u8 (b3 : Int), .int .u8 (b4 : Int), .int .u8 (b5 : Int), .int .u8 (b6 : Int), .int .u8 (b7 : Int), .int .u8 (b8 : Int), .int .u8 (b9 : Int), .int .u8 (b10 : Int), .int .u8 (b11 : Int), .int .u8 (b12 : Int), .int .u8 (b13 : Int), .int .u8 (b14 : Int), .int .u8 (b15 : Int)] 23 (0, 0) hP10
    have hR11 : ArrAt (w10.setRow w.heap.size #[.int .u8 (b0 : Int), .int .u8 (b1 : Int), .int .u8 (b2 : Int), .int .u8 (b3 : Int), .int .u8 (b4 : Int), .int .u8 (b5 : Int), .int .u8 (b6 : Int), .int .u8 (b7 : Int), .int .u8 (b8 : Int), .int .u8 (b9 : Int), .int .u8 (b10 : Int), .int .u8 (b11 : Int), .int .u8 (b12 : Int), .int .u8 (b13 : Int), .int .u8 (b14 : Int), .int .u8 (b15 : Int)]) w.heap.size 23 (#[.int .u8 (b0 : Int), .int .u8 (b1 : Int), .int .u8 (b2 : Int), .int .u8 (b3 : Int), .int .u8 (b4 : Int), .int .u8 (b5 : Int), .int .u8 (b6 : Int), .int .u8 (b7 : Int), .int .u8 (b8 : Int), .int .u8 (b9 : Int), .int .u8 (b10 : Int), .int .u8 (b11 : Int), .int .u8 (b12 : Int), .int .u8 (b13 : Int), .int .u8 (b14 : Int), .int .u8 (b15 : Int)] : Array Value).toList := hset
    have hbs := below_setRow8 hb110 (Nat.le_refl w.heap.size) #[.int .u8 (b0 : Int), .int .u8 (b1 : Int), .int .u8 (b2 : Int), .int .u8 (b3 : Int), .int .u8 (b4 : Int), .int .u8 (b5 : Int), .int .u8 (b6 : Int), .int .u8 (b7 : Int), .int .u8 (b8 : Int), .int .u8 (b9 : Int), .int .u8 (b10 : Int), .int .u8 (b11 : Int), .int .u8 (b12 : Int), .int .u8 (b13 : Int), .int .u8 (b14 : Int), .int .u8 (b15 : Int)]
    have hall : (#[.int .u8 (b0 : Int), .int .u8 (b1 : Int), .int .u8 (b2 : Int), .int .u8 (b3 : Int), .int .u8 (b4 : Int), .int .u8 (b5 : Int), .int .u8 (b6 : Int), .int .u8 (b7 : Int), .int .u8 (b8 : Int), .int .u8 (b9 : Int), .int .u8 (b10 : Int), .int .u8 (b11 : Int), .int .u8 (b12 : Int), .int .u8 (b13 : Int), .int .u8 (b14 : Int), .int .u8 (b15 : Int)] : Array Value).all (·.oneCell') = true := by simp [Value.oneCell']
    go_wp2_with (refine wpList_store_row (o := ⟨none, _, _, _, _, _⟩) rfl _ _ _ rfl w.heap.size #[.int .u8 (b0 : Int), .int .u8 (b1 : Int), .int .u8 (b2 : Int), .int .u8 (b3 : Int), .int .u8 (b4 : Int), .int .u8 (b5 : Int), .int .u8 (b6 : Int), .int .u8 (b7 : Int), .int .u8 (b8 : Int), .int .u8 (b9 : Int), .int .u8 (b10 : Int), .int .u8 (b11 : Int), .int .u8 (b12 : Int), .int .u8 (b13 : Int), .int .u8 (b14 : Int), .int .u8 (b15 : Int)] rfl rfl _ _ hP10 (by rw [size_v6]; rfl) rfl hall ?_)
    (try simp only [Exit.inBlock, Exit.then])
    refine bodyPost_ret (results_v6t rfl rfl hR11 rfl) rfl ?_
    refine ⟨?_, hbs⟩
    rw [HBE.out]
    rfl
end Go.Proofs.YtameipbnobaoeaaDoor

/- The law's own check that hexad speaks. -/
namespace Go.Proofs.YtameipbnobaoeaaDoor
open Go.RowKit

theorem ArrAt.cells16 {w : World} {g : Nat} {t : TypeId} {x0 x1 x2 x3 x4 x5 x6 x7 x8 x9 x10 x11 x12 x13 x14 x15 : Value} (h : ArrAt w g t [x0, x1, x2, x3, x4, x5, x6, x7, x8, x9, x10, x11, x12, x13, x14, x15]) : w.cell? ⟨g, 0, none⟩ = some x0 ∧ w.cell? ⟨g, 1, none⟩ = some x1 ∧ w.cell? ⟨g, 2, none⟩ = some x2 ∧ w.cell? ⟨g, 3, none⟩ = some x3 ∧ w.cell? ⟨g, 4, none⟩ = some x4 ∧ w.cell? ⟨g, 5, none⟩ = some x5 ∧ w.cell? ⟨g, 6, none⟩ = some x6 ∧ w.cell? ⟨g, 7, none⟩ = some x7 ∧ w.cell? ⟨g, 8, none⟩ = some x8 ∧ w.cell? ⟨g, 9, none⟩ = some x9 ∧ w.cell? ⟨g, 10, none⟩ = some x10 ∧ w.cell? ⟨g, 11, none⟩ = some x11 ∧ w.cell? ⟨g, 12, none⟩ = some x12 ∧ w.cell? ⟨g, 13, none⟩ = some x13 ∧ w.cell? ⟨g, 14, none⟩ = some x14 ∧ w.cell? ⟨g, 15, none⟩ = some x15 := by
  refine ⟨?_, ?_, ?_, ?_, ?_, ?_, ?_, ?_, ?_, ?_, ?_, ?_, ?_, ?_, ?_, ?_⟩ <;> exact h.cell rfl
theorem ArrAt.cells8 {w : World} {g : Nat} {t : TypeId} {x0 x1 x2 x3 x4 x5 x6 x7 : Value} (h : ArrAt w g t [x0, x1, x2, x3, x4, x5, x6, x7]) : w.cell? ⟨g, 0, none⟩ = some x0 ∧ w.cell? ⟨g, 1, none⟩ = some x1 ∧ w.cell? ⟨g, 2, none⟩ = some x2 ∧ w.cell? ⟨g, 3, none⟩ = some x3 ∧ w.cell? ⟨g, 4, none⟩ = some x4 ∧ w.cell? ⟨g, 5, none⟩ = some x5 ∧ w.cell? ⟨g, 6, none⟩ = some x6 ∧ w.cell? ⟨g, 7, none⟩ = some x7 := by
  refine ⟨?_, ?_, ?_, ?_, ?_, ?_, ?_, ?_⟩ <;> exact h.cell rfl
theorem sp12_a : parseH ⟨#[50, 48, 48, 49, 58, 48, 100, 98, 56, 58, 48, 58, 48, 58, 49, 58, 48, 58, 48, 58, 49]⟩ = some [8193, 3512, 0, 0, 1, 0, 0, 1] := by decide +kernel
theorem sp12_b : parseH ⟨#[58, 58, 102, 102, 102, 102, 58, 49, 46, 50, 46, 51, 46, 52]⟩ = some [0, 0, 0, 0, 0, 65535, 258, 772] := by decide +kernel
theorem sp12_c : textH [8193, 3512, 0, 0, 1, 0, 0, 1] = [50, 48, 48, 49, 58, 100, 98, 56, 58, 58, 49, 58, 48, 58, 48, 58, 49] := by decide +kernel
theorem sp12_d : grps [32, 1, 13, 184, 0, 0, 0, 0, 0, 1, 0, 0, 0, 0, 0, 1] = [8193, 3512, 0, 0, 1, 0, 0, 1] := by decide +kernel
theorem sp12_e : grps [0, 0, 0, 0, 0, 0, 0, 0, 0, 0, 255, 255, 1, 2, 3, 4] = [0, 0, 0, 0, 0, 65535, 258, 772] := by decide +kernel
theorem sp12_1 : (Value.agg ((bytesG [8193, 3512, 0, 0, 1, 0, 0, 1]).map u8V).toArray) = .agg #[.int .u8 32, .int .u8 1, .int .u8 13, .int .u8 184, .int .u8 0, .int .u8 0, .int .u8 0, .int .u8 0, .int .u8 0, .int .u8 1, .int .u8 0, .int .u8 0, .int .u8 0, .int .u8 0, .int .u8 0, .int .u8 1] := by
  simp [bytesG, byteG, u8V, List.range, List.range.loop]
theorem sp12_2 : (Value.agg ((bytesG [0, 0, 0, 0, 0, 65535, 258, 772]).map u8V).toArray) = .agg #[.int .u8 0, .int .u8 0, .int .u8 0, .int .u8 0, .int .u8 0, .int .u8 0, .int .u8 0, .int .u8 0, .int .u8 0, .int .u8 0, .int .u8 255, .int .u8 255, .int .u8 1, .int .u8 2, .int .u8 3, .int .u8 4] := by
  simp [bytesG, byteG, u8V, List.range, List.range.loop]
set_option maxHeartbeats 1600000 in
set_option maxRecDepth 100000 in
theorem speaks12 (w : World) (hg : Handle w) (hm : MaxAt w) : Calls Tryd.prog 5 #[] w fun e w' => e = .returned (.bool true) ∧ Below w.heap.size w w' := by
  have c1' : ∀ W : World, Handle W → MaxAt W → Calls Tryd.prog 7 #[.string ⟨#[50, 48, 48, 49, 58, 48, 100, 98, 56, 58, 48, 58, 48, 58, 49, 58, 48, 58, 48, 58, 49]⟩] W fun e w' => e = .returned (.tuple #[.agg #[.int .u8 32, .int .u8 1, .int .u8 13, .int .u8 184, .int .u8 0, .int .u8 0, .int .u8 0, .int .u8 0, .int .u8 0, .int .u8 1, .int .u8 0, .int .u8 0, .int .u8 0, .int .u8 0, .int .u8 0, .int .u8 1], .nilIface]) ∧ Below W.heap.size W w' := fun W hg hm => sp12_1 ▸ hexad_Parse ⟨#[50, 48, 48, 49, 58, 48, 100, 98, 56, 58, 48, 58, 48, 58, 49, 58, 48, 58, 48, 58, 49]⟩ [8193, 3512, 0, 0, 1, 0, 0, 1] W (by decide) hg hm sp12_a
  have c2' : ∀ W : World, Handle W → MaxAt W → Calls Tryd.prog 7 #[.string ⟨#[58, 58, 102, 102, 102, 102, 58, 49, 46, 50, 46, 51, 46, 52]⟩] W fun e w' => e = .returned (.tuple #[.agg #[.int .u8 0, .int .u8 0, .int .u8 0, .int .u8 0, .int .u8 0, .int .u8 0, .int .u8 0, .int .u8 0, .int .u8 0, .int .u8 0, .int .u8 255, .int .u8 255, .int .u8 1, .int .u8 2, .int .u8 3, .int .u8 4], .nilIface]) ∧ Below W.heap.size W w' := fun W hg hm => sp12_2 ▸ hexad_Parse ⟨#[58, 58, 102, 102, 102, 102, 58, 49, 46, 50, 46, 51, 46, 52]⟩ [0, 0, 0, 0, 0, 65535, 258, 772] W (by decide) hg hm sp12_b
  have c3' : ∀ W : World, Calls Tryd.prog 9 #[.agg #[.int .u8 0, .int .u8 0, .int .u8 0, .int .u8 0, .int .u8 0, .int .u8 0, .int .u8 0, .int .u8 0, .int .u8 0, .int .u8 0, .int .u8 255, .int .u8 255, .int .u8 1, .int .u8 2, .int .u8 3, .int .u8 4]] W fun e w' => e = .returned (.agg #[.int .u16 0, .int .u16 0, .int .u16 0, .int .u16 0, .int .u16 0, .int .u16 65535, .int .u16 258, .int .u16 772]) ∧ Below W.heap.size W w' := fun W => by
    have := hexad_Groups [0, 0, 0, 0, 0, 0, 0, 0, 0, 0, 255, 255, 1, 2, 3, 4] W rfl (by decide)
    rw [sp12_e] at this
    exact this
  have c4' : ∀ W : World, Calls Tryd.prog 6 #[.agg #[.int .u8 32, .int .u8 1, .int .u8 13, .int .u8 184, .int .u8 0, .int .u8 0, .int .u8 0, .int .u8 0, .int .u8 0, .int .u8 1, .int .u8 0, .int .u8 0, .int .u8 0, .int .u8 0, .int .u8 0, .int .u8 1]] W fun e w' => e = .returned (.string ⟨#[50, 48, 48, 49, 58, 100, 98, 56, 58, 58, 49, 58, 48, 58, 48, 58, 49]⟩) ∧ Below W.heap.size W w' := fun W => by
    have := hexad_Text [32, 1, 13, 184, 0, 0, 0, 0, 0, 1, 0, 0, 0, 0, 0, 1] W rfl (by decide)
    rw [sp12_d, sp12_c] at this
    exact this
  have c1 := Lib.hid c1'
  have c2 := Lib.hid c2'
  have c3 := Lib.hid c3'
  have c4 := Lib.hid c4'
  clear c1' c2' c3' c4'
  go_enter Tryd.func5, Tryd.ntmps5
  go_wp2_with fail
  refine (c1.out _ hg hm).mono ?_
  rintro e w1 ⟨rfl, hb1⟩
  have hA1 : ArrAt (w1.alloc (.cells #[.int .u8 32, .int .u8 1, .int .u8 13, .int .u8 184, .int .u8 0, .int .u8 0, .int .u8 0, .int .u8 0, .int .u8 0, .int .u8 1, .int .u8 0, .int .u8 0, .int .u8 0, .int .u8 0, .int .u8 0, .int .u8 1] 23)) w1.heap.size 23 [.int .u8 32, .int .u8 1, .int .u8 13, .int .u8 184, .int .u8 0, .int .u8 0, .int .u8 0, .int .u8 0, .int .u8 0, .int .u8 1, .int .u8 0, .int .u8 0, .int .u8 0, .int .u8 0, .int .u8 0, .int .u8 1] := heap_alloc_new w1 _
  have hst1 : Below w1.heap.size w1 (w1.alloc (.cells #[.int .u8 32, .int .u8 1, .int .u8 13, .int .u8 184, .int .u8 0, .int .u8 0, .int .u8 0, .int .u8 0, .int .u8 0, .int .u8 1, .int .u8 0, .int .u8 0, .int .u8 0, .int .u8 0, .int .u8 0, .int .u8 1] 23)) := (Below.refl _ _).alloc (Nat.le_refl _) _
  have hb01 := Bt hb1 hst1
  have hg1 := hg.below hb01
  have hm1 := hm.below hb01
  clear hb1 hst1
  go_wp2_with fail
  refine (c2.out _ hg1 hm1).mono ?_
  rintro e w2 ⟨rfl, hb2⟩
  have hA2 := hA1.below hb2
  have hst2 : Below w2.heap.size w2 (w2.alloc (.cells #[.int .u8 0, .int .u8 0, .int .u8 0, .int .u8 0, .int .u8 0, .int .u8 0, .int .u8 0, .int .u8 0, .int .u8 0, .int .u8 0, .int .u8 255, .int .u8 255, .int .u8 1, .int .u8 2, .int .u8 3, .int .u8 4] 23)) := (Below.refl _ _).alloc (Nat.le_refl _) _
  have hb02 := Bt hb01 (Bt hb2 hst2)
  have hA2' := hA2.below hst2
  clear hb2 hst2 hA1 hb01 hg1 hm1 hA2
  go_wp2_with fail
  refine (c3.out _).mono ?_
  rintro e w3 ⟨rfl, hb3⟩
  have hst3 : Below w3.heap.size w3 (w3.alloc (.cells #[.int .u16 0, .int .u16 0, .int .u16 0, .int .u16 0, .int .u16 0, .int .u16 65535, .int .u16 258, .int .u16 772] 26)) := (Below.refl _ _).alloc (Nat.le_refl _) _
  have hA3 := hA2'.below (Bt hb3 hst3)
  have hG3 : ArrAt (w3.alloc (.cells #[.int .u16 0, .int .u16 0, .int .u16 0, .int .u16 0, .int .u16 0, .int .u16 65535, .int .u16 258, .int .u16 772] 26)) w3.heap.size 26 [.int .u16 0, .int .u16 0, .int .u16 0, .int .u16 0, .int .u16 0, .int .u16 65535, .int .u16 258, .int .u16 772] := heap_alloc_new w3 _
  have hb03 := Bt hb02 (Bt hb3 hst3)
  obtain ⟨f0, f1, f2, f3, f4, f5, f6, f7, f8, f9, f10, f11, f12, f13, f14, f15⟩ := hA3.cells16
  clear hA3 hA2' hb3 hst3 hb02
  go_wp2_with fail
  refine (c4.out _).mono ?_
  rintro e w4 ⟨rfl, hb4⟩
  obtain ⟨k0, k1, k2, k3, k4, k5, k6, k7⟩ := (hG3.below hb4).cells8
  have hb04 := Bt hb03 hb4
  clear hG3 hb4 hb03 f0 f1 f2 f3 f4 f5 f6 f7 f8 f9 f10 f11 f12 f13 f14 f15
  go_wp2_with fail
  go_ret
  exact ⟨rfl, hb04⟩
end Go.Proofs.YtameipbnobaoeaaDoor
