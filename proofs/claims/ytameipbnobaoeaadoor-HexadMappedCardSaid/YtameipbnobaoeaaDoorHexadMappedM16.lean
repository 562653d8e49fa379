/- hexad.Mapped. -/
import Derived.Test.YtameipbnobaoeaaDoorHexadMappedM11
import Derived.Test.YtameipbnobaoeaaDoorHexadMappedM8
import Derived.Deep.MidRow
import Derived.Deep.WholeRow
import Derived.Test.YtameipbnobaoeaaDoorHexadMappedM15
import Derived.Test.YtameipbnobaoeaaDoorHexadMappedM7

namespace Go.Proofs.YtameipbnobaoeaaDoor
open Go.RowKit

/-- Whether an address of sixteen bytes stands for one of four. -/
def mapB (b : List Nat) : Bool := (b.take 10).all (fun x => decide (x = 0)) && (decide (b.getD 10 0 = 255) && decide (b.getD 11 0 = 255))
def mapV (b : List Nat) : Array Value := if mapB b = true then #[.int .u8 (b.getD 12 0 : Nat), .int .u8 (b.getD 13 0 : Nat), .int .u8 (b.getD 14 0 : Nat), .int .u8 (b.getD 15 0 : Nat)] else #[.int .u8 0, .int .u8 0, .int .u8 0, .int .u8 0]
theorem map_groups {b : List Nat} (hl : b.length = 16) (hb : ∀ x ∈ b, x < 256) : ∃ x0 x1 x2 x3 x4 x5 x6 x7, grps b = [x0, x1, x2, x3, x4, x5, x6, x7] ∧ (mapB b = true ↔ x0 = 0 ∧ x1 = 0 ∧ x2 = 0 ∧ x3 = 0 ∧ x4 = 0 ∧ x5 = 65535) := by
  obtain ⟨b0, b1, b2, b3, b4, b5, b6, b7, b8, b9, b10, b11, b12, b13, b14, b15, rfl⟩ := sixteen hl
  have l0 := hb b10 (by simp)
  have l1 := hb b11 (by simp)
  refine ⟨_, _, _, _, _, _, _, _, rfl, ?_⟩
  have g0 : grpB [b0, b1, b2, b3, b4, b5, b6, b7, b8, b9, b10, b11, b12, b13, b14, b15] 0 = b0 * 256 + b1 := rfl
  have g1 : grpB [b0, b1, b2, b3, b4, b5, b6, b7, b8, b9, b10, b11, b12, b13, b14, b15] 1 = b2 * 256 + b3 := rfl
  have g2 : grpB [b0, b1, b2, b3, b4, b5, b6, b7, b8, b9, b10, b11, b12, b13, b14, b15] 2 = b4 * 256 + b5 := rfl
  have g3 : grpB [b0, b1, b2, b3, b4, b5, b6, b7, b8, b9, b10, b11, b12, b13, b14, b15] 3 = b6 * 256 + b7 := rfl
  have g4 : grpB [b0, b1, b2, b3, b4, b5, b6, b7, b8, b9, b10, b11, b12, b13, b14, b15] 4 = b8 * 256 + b9 := rfl
  have g5 : grpB [b0, b1, b2, b3, b4, b5, b6, b7, b8, b9, b10, b11, b12, b13, b14, b15] 5 = b10 * 256 + b11 := rfl
  rw [g0, g1, g2, g3, g4, g5]
  simp only [mapB, List.take, List.all_cons, List.all_nil, Bool.and_eq_true, decide_eq_true_eq, Bool.and_true]
  simp only [List.getD_cons_zero, List.getD_cons_succ]
  constructor
  · rintro ⟨⟨h0, h1, h2, h3, h4, h5, h6, h7, h8, h9⟩, h10, h11⟩
    refine ⟨?_, ?_, ?_, ?_, ?_, ?_⟩ <;> omega
  · rintro ⟨h0, h1, h2, h3, h4, h5⟩
    refine ⟨⟨?_, ?_, ?_, ?_, ?_, ?_, ?_, ?_, ?_, ?_⟩, ?_, ?_⟩ <;> omega
theorem ArrAt.range6 {w : World} {g : Nat} {t : TypeId} {l : List Value} (h : ArrAt w g t l) : w.rangeAt g 0 l := fun j v hv => by
  rw [Nat.zero_add]; exact h.cell hv
set_option maxHeartbeats 3200000 in
set_option maxRecDepth 100000 in
theorem hexad_Mapped (b : List Nat) (w : World) (hl : b.length = 16) (hb : ∀ x ∈ b, x < 256) :
    Calls Tryd.prog 11 #[.agg (b.map u8V).toArray] w fun e w' => e = .returned (.tuple #[.agg (mapV b), .bool (mapB b)]) ∧ Below w.heap.size w w' := by
  obtain ⟨x0, x1, x2, x3, x4, x5, x6, x7, hgr, hm⟩ := map_groups hl hb
  have c4' : ∀ W, Calls Tryd.prog 9 #[.agg (b.map u8V).toArray] W fun e w' => e = .returned (.agg #[.int .u16 (x0 : Int), .int .u16 (x1 : Int), .int .u16 (x2 : Int), .int .u16 (x3 : Int), .int .u16 (x4 : Int), .int .u16 (x5 : Int), .int .u16 (x6 : Int), .int .u16 (x7 : Int)]) ∧ Below W.heap.size W w' := fun W => by
    have := hexad_Groups b W hl hb
    rw [hgr] at this
    exact this
  have C4 := Lib.hid c4'
  have lA : (b.map u8V).length = 16 := by rw [List.length_map, hl]
  have k6 : (Tryd.prog.info? 23).map (·.size) = some (b.map u8V).length := by rw [lA]; exact size_v6
  have K6 := Lib.hid k6
  have U6 := Lib.hid (show Tryd.prog.underlying 23 = some (.array 16 5) from Tryd.underlying23)
  have hno : mapB b = false → (Value.tuple #[.agg #[.int .u8 0, .int .u8 0, .int .u8 0, .int .u8 0], .bool false]) = .tuple #[.agg (mapV b), .bool (mapB b)] := fun h => by
    unfold mapV; rw [h]; rfl
  have hyes : mapB b = true → (Value.tuple #[.agg #[.int .u8 (b.getD 12 0 : Nat), .int .u8 (b.getD 13 0 : Nat), .int .u8 (b.getD 14 0 : Nat), .int .u8 (b.getD 15 0 : Nat)], .bool true]) = .tuple #[.agg (mapV b), .bool (mapB b)] := fun h => by
    unfold mapV; rw [h]; rfl
  have hf : ∀ i, i < 16 → (b.map u8V)[i]? = some (.int .u8 (b.getD i 0 : Nat)) := fun i hi => by
    rw [List.getElem?_map, List.getD, List.getElem?_eq_getElem (by omega)]; rfl
  have f0 := hf 12 (by omega)
  have f1 := hf 13 (by omega)
  have f2 := hf 14 (by omega)
  have f3 := hf 15 (by omega)
  clear hf
  have HNO := Lib.hid hno
  have HYES := Lib.hid hyes
  have HM := Lib.hid hm
  have hA0 : ArrAt (w.alloc (.cells (b.map u8V).toArray 23)) w.heap.size 23 (b.map u8V) := heap_alloc_new w _
  have hst0 : Below w.heap.size w (w.alloc (.cells (b.map u8V).toArray 23)) := (Below.refl _ _).alloc (Nat.le_refl _) _
  clear c4' hno hyes hm k6 hgr hb
  generalize b.getD 12 0 = y0 at *
  generalize b.getD 13 0 = y1 at *
  generalize b.getD 14 0 = y2 at *
  generalize b.getD 15 0 = y3 at *
  have hz0 := V4At.new (w.alloc (.cells (b.map u8V).toArray 23))
  rw [World.size_alloc] at hz0
  have hst1 : Below (w.alloc (.cells (b.map u8V).toArray 23)).heap.size (w.alloc (.cells (b.map u8V).toArray 23)) ((w.alloc (.cells (b.map u8V).toArray 23)).alloc (.cells #[.int .u8 0, .int .u8 0, .int .u8 0, .int .u8 0] 37)) := (Below.refl _ _).alloc (Nat.le_refl _) _
  have hA1 := hA0.below hst1
  have hb1 := Bt hst0 hst1
  have r1 := hA1.range6
  have hU4 := Lib.hid (show Tryd.prog.underlying 37 = some (.array 4 5) from Tryd.underlying37)
  clear hA0 hst0 hst1 lA hl
  generalize hLA : b.map u8V = LA at *
  clear hLA
  go_enter Tryd.func11, Tryd.ntmps11
  go_wp2_with (refine wpList_load_mid rfl _ _ rfl _ _ rfl LA _ r1 U6.out rfl K6.out ?_)
  refine (C4.out _).mono ?_
  rintro e w1 ⟨rfl, hb2⟩
  have hA2 := hA1.below hb2
  have hz2 := hz0.below hb2
  have hb02 := Bt hb1 hb2
  have hG : ArrAt (w1.alloc (.cells #[.int .u16 (x0 : Int), .int .u16 (x1 : Int), .int .u16 (x2 : Int), .int .u16 (x3 : Int), .int .u16 (x4 : Int), .int .u16 (x5 : Int), .int .u16 (x6 : Int), .int .u16 (x7 : Int)] 26)) w1.heap.size 26 [.int .u16 (x0 : Int), .int .u16 (x1 : Int), .int .u16 (x2 : Int), .int .u16 (x3 : Int), .int .u16 (x4 : Int), .int .u16 (x5 : Int), .int .u16 (x6 : Int), .int .u16 (x7 : Int)] := heap_alloc_new w1 _
  have hst2 : Below w1.heap.size w1 (w1.alloc (.cells #[.int .u16 (x0 : Int), .int .u16 (x1 : Int), .int .u16 (x2 : Int), .int .u16 (x3 : Int), .int .u16 (x4 : Int), .int .u16 (x5 : Int), .int .u16 (x6 : Int), .int .u16 (x7 : Int)] 26)) := (Below.refl _ _).alloc (Nat.le_refl _) _
  have hA3 := hA2.below hst2
  have hz3 := hz2.below hst2
  have hb03 := Bt hb02 hst2
  clear r1 hA1 hA2 hz0 hz2 hb2 hb02 hst2 hb1
  have c0 := hG.cell (i := 0) rfl
  have c1 := hG.cell (i := 1) rfl
  have c2 := hG.cell (i := 2) rfl
  have c3 := hG.cell (i := 3) rfl
  have c4 := hG.cell (i := 4) rfl
  have c5 := hG.cell (i := 5) rfl
  have p0 := hA3.cell f0
  have p1 := hA3.cell f1
  have p2 := hA3.cell f2
  have p3 := hA3.cell f3
  have hld := hz3.load
  obtain ⟨s0, s1, s2, s3⟩ := V4At.cells (show V4At _ _ #[.int .u8 0, .int .u8 0, .int .u8 0, .int .u8 0] from hz3)
  go_wp2_with fail
  clear hG hA3
  generalize w1.alloc (.cells #[.int .u16 (x0 : Int), .int .u16 (x1 : Int), .int .u16 (x2 : Int), .int .u16 (x3 : Int), .int .u16 (x4 : Int), .int .u16 (x5 : Int), .int .u16 (x6 : Int), .int .u16 (x7 : Int)] 26) = w2 at *
  generalize w1.heap.size = n1 at *
  refine wp_loop_rounds 6 ?_
  rw [rounds_succ]
  by_cases h0 : x0 ≠ 0
  · have hI : ¬ (x0 : Int) = 0 := by omega
    have hn : mapB b = false := by
      cases hc : mapB b
      · rfl
      · exact absurd (HM.out.1 hc).1 (by omega)
    have HN := Lib.hid (HNO.out hn)
    clear hn
    go_wp2_with (refine wpList_store_v4 (o := ⟨none, _, _, _, _, _⟩) rfl _ _ rfl (w.heap.size + 1) 0 0 0 0 rfl rfl _ hz3 ?_; intro hst)
    (try simp only [Exit.inBlock, Exit.then])
    refine bodyPost_ret (results_v4 rfl rfl hst) rfl ?_
    exact ⟨congrArg Ending.returned HN.out, below_setRow hb03 (by omega) _⟩
  have hI0 : (x0 : Int) = 0 := by omega
  clear h0
  go_wp2_with fail
  rw [rounds_succ]
  by_cases h1 : x1 ≠ 0
  · have hI : ¬ (x1 : Int) = 0 := by omega
    have hn : mapB b = false := by
      cases hc : mapB b
      · rfl
      · exact absurd (HM.out.1 hc).2.1 (by omega)
    have HN := Lib.hid (HNO.out hn)
    clear hn
    go_wp2_with (refine wpList_store_v4 (o := ⟨none, _, _, _, _, _⟩) rfl _ _ rfl (w.heap.size + 1) 0 0 0 0 rfl rfl _ hz3 ?_; intro hst)
    (try simp only [Exit.inBlock, Exit.then])
    refine bodyPost_ret (results_v4 rfl rfl hst) rfl ?_
    exact ⟨congrArg Ending.returned HN.out, below_setRow hb03 (by omega) _⟩
  have hI1 : (x1 : Int) = 0 := by omega
  clear h1
  go_wp2_with fail
  rw [rounds_succ]
  by_cases h2 : x2 ≠ 0
  · have hI : ¬ (x2 : Int) = 0 := by omega
    have hn : mapB b = false := by
      cases hc : mapB b
      · rfl
      · exact absurd (HM.out.1 hc).2.2.1 (by omega)
    have HN := Lib.hid (HNO.out hn)
    clear hn
    go_wp2_with (refine wpList_store_v4 (o := ⟨none, _, _, _, _, _⟩) rfl _ _ rfl (w.heap.size + 1) 0 0 0 0 rfl rfl _ hz3 ?_; intro hst)
    (try simp only [Exit.inBlock, Exit.then])
    refine bodyPost_ret (results_v4 rfl rfl hst) rfl ?_
    exact ⟨congrArg Ending.returned HN.out, below_setRow hb03 (by omega) _⟩
  have hI2 : (x2 : Int) = 0 := by omega
  clear h2
  go_wp2_with fail
  rw [rounds_succ]
  by_cases h3 : x3 ≠ 0
  · have hI : ¬ (x3 : Int) = 0 := by omega
    have hn : mapB b = false := by
      cases hc : mapB b
      · rfl
      · exact absurd (HM.out.1 hc).2.2.2.1 (by omega)
    have HN := Lib.hid (HNO.out hn)
    clear hn
    go_wp2_with (refine wpList_store_v4 (o := ⟨none, _, _, _, _, _⟩) rfl _ _ rfl (w.heap.size + 1) 0 0 0 0 rfl rfl _ hz3 ?_; intro hst)
    (try simp only [Exit.inBlock, Exit.then])
    refine bodyPost_ret (results_v4 rfl rfl hst) rfl ?_
    exact ⟨congrArg Ending.returned HN.out, below_setRow hb03 (by omega) _⟩
  have hI3 : (x3 : Int) = 0 := by omega
  clear h3
  go_wp2_with fail
  rw [rounds_succ]
  by_cases h4 : x4 ≠ 0
  · have hI : ¬ (x4 : Int) = 0 := by omega
    have hn : mapB b = false := by
      cases hc : mapB b
      · rfl
      · exact absurd (HM.out.1 hc).2.2.2.2.1 (by omega)
    have HN := Lib.hid (HNO.out hn)
    clear hn
    go_wp2_with (refine wpList_store_v4 (o := ⟨none, _, _, _, _, _⟩) rfl _ _ rfl (w.heap.size + 1) 0 0 0 0 rfl rfl _ hz3 ?_; intro hst)
    (try simp only [Exit.inBlock, Exit.then])
    refine bodyPost_ret (results_v4 rfl rfl hst) rfl ?_
    exact ⟨congrArg Ending.returned HN.out, below_setRow hb03 (by omega) _⟩
  have hI4 : (x4 : Int) = 0 := by omega
  clear h4
  go_wp2_with fail
  rw [rounds_succ]
  by_cases h5 : x5 ≠ 65535
  · have hI : ¬ (x5 : Int) = 65535 := by omega
    have hI2 : ((x5 : Int) != 65535) = true := by simp [hI]
    have hn : mapB b = false := by
      cases hc : mapB b
      · rfl
      · exact absurd (HM.out.1 hc).2.2.2.2.2 (by omega)
    have HN := Lib.hid (HNO.out hn)
    clear hn
    go_wp2_with (refine wpList_store_v4 (o := ⟨none, _, _, _, _, _⟩) rfl _ _ rfl (w.heap.size + 1) 0 0 0 0 rfl rfl _ hz3 ?_; intro hst)
    (try simp only [Exit.inBlock, Exit.then])
    refine bodyPost_ret (results_v4 rfl rfl hst) rfl ?_
    exact ⟨congrArg Ending.returned HN.out, below_setRow hb03 (by omega) _⟩
  have hI5 : (x5 : Int) = 65535 := by omega
  have hI6 : ((x5 : Int) != 65535) = false := by simp [hI5]
  have hy : mapB b = true := HM.out.2 (by omega)
  have HY := Lib.hid (HYES.out hy)
  have r12 : w2.rangeAt w.heap.size 12 [.int .u8 (y0 : Int), .int .u8 (y1 : Int), .int .u8 (y2 : Int), .int .u8 (y3 : Int)] := fun j v hv => by
    match j, hv with
    | 0, hv => cases hv; exact p0
    | 1, hv => cases hv; exact p1
    | 2, hv => cases hv; exact p2
    | 3, hv => cases hv; exact p3
  have hl4 : (loadVar 37 ⟨w.heap.size, 12, none⟩).run Tryd.prog w2 = .ok (.agg #[.int .u8 (y0 : Int), .int .u8 (y1 : Int), .int .u8 (y2 : Int), .int .u8 (y3 : Int)]) w2 :=
    run_loadVar_mid w2 w.heap.size 12 37 [.int .u8 (y0 : Int), .int .u8 (y1 : Int), .int .u8 (y2 : Int), .int .u8 (y3 : Int)] _ r12 hU4.out rfl info_v4
  have har : ∀ (n : Nat) (W : World), (Instr.arrayAt 37 (.slice (some ⟨n, 12, none⟩) 4 4)).run Tryd.prog W = .ok (.pointer (some ⟨n, 12, none⟩)) W := fun n W => by kernel_rfl
  have har' := har w.heap.size
  clear h5 hy har
  go_wp2_with (refine wpList_store_v4 (o := ⟨none, _, _, _, _, _⟩) rfl _ _ rfl (w.heap.size + 1) y0 y1 y2 y3 rfl rfl _ hz3 ?_; intro hst)
  (try simp only [Exit.inBlock, Exit.then])
  refine bodyPost_ret (results_v4 rfl rfl hst) rfl ?_
  exact ⟨congrArg Ending.returned HY.out, below_setRow hb03 (by omega) _⟩
end Go.Proofs.YtameipbnobaoeaaDoor

/- Addresses of eight groups that stand for those of four bytes: plain facts. -/
namespace Go.Proofs.YtameipbnobaoeaaDoor
open Go.RowKit

theorem strict_text {a b c d : Nat} (ha : a < 256) (hb : b < 256) (hc : c < 256) (hd : d < 256) : strictB (textT a b c d) = true := by
  unfold strictB
  rw [parse_text ha hb hc hd]
  simp only [textN_of ha hb hc hd]
  simp
/-- The law's text: the mapped prefix ahead of an address's text. -/
def mapT (a b c d : Nat) : ByteArray := ⟨#[58, 58, 70, 70, 70, 70, 58]⟩ ++ textT a b c d
theorem mapT_size {a b c d : Nat} (ha : a < 256) (hb : b < 256) (hc : c < 256) (hd : d < 256) : (mapT a b c d).size ≤ 1000 := by
  have := text_size ha hb hc hd
  unfold mapT
  rw [ByteArray.size_append]
  show 7 + _ ≤ 1000
  omega
theorem dec_free : ∀ x : Fin 256, (decS x.1).data.toList.all (fun c => decide (c ≠ 58)) = true := by decide +kernel
theorem dec_free_of {x : Nat} (h : x < 256) : ∀ c ∈ (decS x).data.toList, c ≠ 58 := fun c hc => by
  have := List.all_eq_true.1 (dec_free ⟨x, h⟩) c hc
  simpa using this
theorem text_list (a b c d : Nat) : (textT a b c d).data.toList = (decS a).data.toList ++ [46] ++ (decS b).data.toList ++ [46] ++ (decS c).data.toList ++ [46] ++ (decS d).data.toList := by
  have hj : ByteArray.empty ++ decS a ++ ⟨#[46]⟩ ++ decS b ++ ⟨#[46]⟩ ++ decS c ++ ⟨#[46]⟩ ++ decS d = textT a b c d := by
    unfold textT
    rw [joinTo_more _ _ 3 (by omega), joinTo_more _ _ 2 (by omega), joinTo_more _ _ 1 (by omega), joinTo_one]
    rfl
  rw [← hj]
  simp only [data_append]
  rfl
theorem text_free {a b c d : Nat} (ha : a < 256) (hb : b < 256) (hc : c < 256) (hd : d < 256) : ∀ x ∈ (textT a b c d).data.toList, x ≠ 58 := by
  intro x hx
  rw [text_list] at hx
  simp only [List.mem_append, List.mem_singleton] at hx
  rcases hx with (((((h | rfl) | h) | rfl) | h) | rfl) | h
  · exact dec_free_of ha x h
  · decide
  · exact dec_free_of hb x h
  · decide
  · exact dec_free_of hc x h
  · decide
  · exact dec_free_of hd x h
theorem text_seven {a b c d : Nat} (ha : a < 256) (hb : b < 256) (hc : c < 256) (hd : d < 256) : 7 ≤ (textT a b c d).size := by
  have h1 := (dec_facts ha).2.2.2.2.1
  have h2 := (dec_facts hb).2.2.2.2.1
  have h3 := (dec_facts hc).2.2.2.2.1
  have h4 := (dec_facts hd).2.2.2.2.1
  have e : ∀ s : ByteArray, s.data.toList.length = s.size := fun _ => rfl
  have := congrArg List.length (text_list a b c d)
  simp only [List.length_append, e, List.length_singleton] at this
  omega
theorem group_ffff : groupH (ofL [70, 70, 70, 70]) = some 65535 := by decide +kernel
theorem parse_map {a b c d : Nat} (ha : a < 256) (hb : b < 256) (hc : c < 256) (hd : d < 256) : parseH (mapT a b c d) = some [0, 0, 0, 0, 0, 65535, a * 256 + b, c * 256 + d] := by
  have hs := strict_text ha hb hc hd
  have h7 := text_seven ha hb hc hd
  have hf := text_free ha hb hc hd
  have hp := parse_text ha hb hc hd
  have hl : (mapT a b c d).data.toList = 58 :: 58 :: ([70, 70, 70, 70] ++ 58 :: (textT a b c d).data.toList) := by
    unfold mapT; rw [data_append]; rfl
  have hc2 : cut2 (mapT a b c d).data.toList = some ([], [70, 70, 70, 70] ++ 58 :: (textT a b c d).data.toList) := by
    rw [hl, cut2, if_pos ⟨rfl, rfl⟩]; rfl
  have e1 : (((a * 256 + b) * 256 + c) * 256 + d) / 65536 % 65536 = a * 256 + b := by omega
  have e2 : (((a * 256 + b) * 256 + c) * 256 + d) % 65536 = c * 256 + d := by omega
  have hg : groupH (textT a b c d) = none := by
    unfold groupH; rw [if_neg (by omega)]
  have hr : rowH true (ofL ([70, 70, 70, 70] ++ 58 :: (textT a b c d).data.toList)) = some [65535, a * 256 + b, c * 256 + d] := by
    unfold rowH
    rw [if_neg (by rw [ofL_size]; simp), ofL_data, splitL_cut 58 _ _ (by decide), splitL_none 58 _ hf]
    simp only [List.map_cons, List.map_nil, ofL_list]
    rw [rowL, group_ffff]
    simp only [rowL, hg, hs, List.isEmpty_nil, Bool.and_self, if_true, hp, Option.map_some, e1, e2]
  unfold parseH
  rw [hc2]
  simp only [hr]
  rfl
/-- The bytes that the law's text stands for. -/
def mapL (p q r s : Nat) : List Nat := [0, 0, 0, 0, 0, 0, 0, 0, 0, 0, 255, 255, p, q, r, s]
theorem bytes_map {p q r s : Nat} (hq : q < 256) (hs : s < 256) : bytesG [0, 0, 0, 0, 0, 65535, p * 256 + q, r * 256 + s] = mapL p q r s := by
  have e : ∀ x y : Nat, y < 256 → (x * 256 + y) / 256 = x ∧ (x * 256 + y) % 256 = y := fun x y h => ⟨by omega, by omega⟩
  simp [bytesG, byteG, mapL, List.range, List.range.loop, (e p q hq).1, (e p q hq).2, (e r s hs).1, (e r s hs).2]
theorem map_yes (p q r s : Nat) : mapB (mapL p q r s) = true := by simp [mapB, mapL]
theorem map_val (p q r s : Nat) : mapV (mapL p q r s) = #[.int .u8 (p : Int), .int .u8 (q : Int), .int .u8 (r : Int), .int .u8 (s : Int)] := by
  unfold mapV
  rw [map_yes, if_pos rfl]
  simp [mapL]
end Go.Proofs.YtameipbnobaoeaaDoor
