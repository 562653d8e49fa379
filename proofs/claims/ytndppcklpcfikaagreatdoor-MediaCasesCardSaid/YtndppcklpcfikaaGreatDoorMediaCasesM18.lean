/- The reference of chapter 17: Parse, plain facts of a text's head. -/
import Derived.Test.YtndppcklpcfikaaGreatDoorMediaCasesM17
import Derived.Deep.DeepCutAuto
import Derived.Test.YtndppcklpcfikaaGreatDoorMediaCasesM12

namespace Go.Proofs.YtndppcklpcfikaaGreatDoor
open Go.RowKit

theorem head_T (s : ByteArray) : headT s = tokW (rest s (blankN s 0)) := by rw [blankN_rest]; rfl
theorem head_M (s : ByteArray) : headM s = markG 47 (tokR (rest s (blankN s 0))) (!tokOk (headT s)) := by rw [blankN_rest]; rfl
theorem head_bad1 {s : ByteArray} (h : ¬ tokOk (tokW (rest s (blankN s 0))) = true) : headB s = true := by
  have h2 : tokOk (headT s) = false := by rw [head_T]; simpa using h
  have : (headM s).2 = true := by rw [head_M, h2]; exact markG_bad
  unfold headB
  rw [this]
  rfl
theorem head_bad2 {s : ByteArray} (h : tokOk (tokW (rest s (blankN s 0))) = true) (h2 : tokR (rest s (blankN s 0)) = []) : headB s = true := by
  have h3 : tokOk (headT s) = true := by rw [head_T]; exact h
  have : (headM s).2 = true := by rw [head_M, h3, h2]; rfl
  unfold headB
  rw [this]
  rfl
theorem head_bad3 {s : ByteArray} {a : Nat} (h : tokOk (tokW (rest s (blankN s 0))) = true) (h2 : tokR (rest s (blankN s 0)) = rest s a) (ha : a < s.size) (h4 : s[a] ≠ 47) : headB s = true := by
  have h3 : tokOk (headT s) = true := by rw [head_T]; exact h
  have : (headM s).2 = true := by
    rw [head_M, h3, h2, rest_cons ha, byteAt_ix ha]
    unfold markG
    simp [h4]
  unfold headB
  rw [this]
  rfl
theorem head_ok {s : ByteArray} {a : Nat} (h : tokOk (tokW (rest s (blankN s 0))) = true) (h2 : tokR (rest s (blankN s 0)) = rest s a) (ha : a < s.size) (h4 : s[a] = 47) : headM s = (rest s (a + 1), false) := by
  have h3 : tokOk (headT s) = true := by rw [head_T]; exact h
  rw [head_M, h3, h2, rest_cons ha, byteAt_ix ha, h4]
  rfl
theorem head_S {s : ByteArray} {a : Nat} (h : headM s = (rest s (a + 1), false)) : headS s = tokW (rest s (a + 1)) ∧ headB s = !tokOk (tokW (rest s (a + 1))) ∧ headR s = blankL (tokR (rest s (a + 1))) := by
  refine ⟨?_, ?_, ?_⟩
  · unfold headS; rw [h]
  · unfold headB headS; rw [h]; rfl
  · unfold headR; rw [h]
end Go.Proofs.YtndppcklpcfikaaGreatDoor

/- The reference of chapter 17: Parse. -/
namespace Go.Proofs.YtndppcklpcfikaaGreatDoor
open Go.RowKit

theorem below_al {a w : World} {o : Obj} (h : Below a.heap.size a w) : Below a.heap.size a (w.alloc o) := h.alloc h.size _
def RParse17 (s : ByteArray) (w : World) (e : Ending) (w' : World) : Prop := Below w.heap.size w w' ∧
  ((∃ m, parseM s = .ok m ∧ ∃ pa c, e = .returned (.tuple #[.agg #[.string m.type, .string m.sub, .slice pa m.params.length c], .int .i64 0]) ∧ ItemsOwn w' pa m.params) ∨
   (∃ k i, parseM s = .error (k, i) ∧ e = .returned (.tuple #[.agg #[.string ⟨#[]⟩, .string ⟨#[]⟩, .slice none 0 0], .int .i64 (k : Nat)])))
set_option maxHeartbeats 1600000 in
set_option maxRecDepth 100000 in
theorem ref17_Parse_long (s : ByteArray) (w : World) (hs : 1000 < s.size) : Calls Tryz.prog 17 #[.string s] w (RParse17 s w) := by
  have hp : parseM s = .error (14, 1000) := by unfold parseM; rw [if_pos hs]
  have HP := Lib.hid hp
  have hsI : (s.size : Int) > 1000 := by omega
  have hb1 : Below w.heap.size w (w.alloc (.cells #[.string ⟨#[]⟩, .string ⟨#[]⟩, .slice none 0 0] 24)) := (Below.refl _ _).alloc (Nat.le_refl _) _
  have hz1 : MediaAt (w.alloc (.cells #[.string ⟨#[]⟩, .string ⟨#[]⟩, .slice none 0 0] 24)) w.heap.size ⟨#[]⟩ ⟨#[]⟩ none 0 0 := MediaAt.new
  clear hp
  go_enter Tryz.func17, Tryz.ntmps17
  go_wp2_with (refine wpList_store_media (o := ⟨none, _, _, _, _, _⟩) rfl _ _ rfl w.heap.size ⟨#[]⟩ ⟨#[]⟩ none 0 0 rfl rfl hz1 ?_; intro hst)
  (try simp only [Exit.inBlock, Exit.then])
  refine bodyPost_ret (results_media rfl rfl hst) rfl ?_
  exact ⟨below_setRowI hb1 (Nat.le_refl _) _, .inr ⟨14, 1000, HP.out, rfl⟩⟩
set_option maxHeartbeats 12800000 in
set_option maxRecDepth 100000 in
theorem ref17_Parse_short (s : ByteArray) (w : World) (hs : s.size ≤ 1000) : Calls Tryz.prog 17 #[.string s] w (RParse17 s w) := by
  have HE1 := Lib.hid (fun h => @parseM_bad s hs h)
  have HE2 := Lib.hid (fun h h2 => @parseM_none s hs h h2)
  have HE3 := Lib.hid (fun l h h2 h3 => @parseM_many s l hs h h2 h3)
  have HE4 := Lib.hid (fun l h h2 h3 h4 => @parseM_dup s l hs h h2 h3 h4)
  have HE5 := Lib.hid (fun l h h2 h3 h4 => @parseM_ok s l hs h h2 h3 h4)
  have hsI : ¬ (s.size : Int) > 1000 := by omega
  have hz1 : MediaAt (w.alloc (.cells #[.string ⟨#[]⟩, .string ⟨#[]⟩, .slice none 0 0] 24)) w.heap.size ⟨#[]⟩ ⟨#[]⟩ none 0 0 := MediaAt.new
  have hb1 : Below w.heap.size w (w.alloc (.cells #[.string ⟨#[]⟩, .string ⟨#[]⟩, .slice none 0 0] 24)) := (Below.refl _ _).alloc (Nat.le_refl _) _
  have hs1 : (w.alloc (.cells #[.string ⟨#[]⟩, .string ⟨#[]⟩, .slice none 0 0] 24)).heap.size = w.heap.size + 1 := by simp
  have cB0 : ∀ W, Calls Tryz.prog 36 #[.string s, .int .i64 (0 : Int)] W fun e w' => e = .returned (.int .i64 (blankN s 0 : Int)) ∧ W = w' := fun W => ref17_blank s 0 W (by omega) (by omega)
  have hbl := blankN_le s 0 (by omega)
  have HX1 := Lib.hid (@head_bad1 s)
  have HX2 := Lib.hid (@head_bad2 s)
  have HX3 := Lib.hid (fun a => @head_bad3 s a)
  have HX4 := Lib.hid (fun a => @head_ok s a)
  have HTT := Lib.hid (head_T s)
  generalize blankN s 0 = p0 at *
  have cT := Lib.hid (fun W => ref17_token s p0 W (by omega) hbl.2)
  have CB0 := Lib.hid cB0
  clear cB0
  by_cases hok : tokOk (tokW (rest s p0)) = true
  case neg =>
    have ht : tokAt s p0 = -1 := if_neg hok
    have HN := Lib.hid (HE1.out (HX1.out hok))
    rw [ht] at cT
    clear hok ht
    go_enter Tryz.func17, Tryz.ntmps17
    go_wp2_with fail
    refine (CB0.out _).mono ?_
    rintro e w2 ⟨rfl, rfl⟩
    go_wp2_with fail
    refine (cT.out _).mono ?_
    rintro e w2 ⟨rfl, rfl⟩
    go_wp2_with (refine wpList_store_media (o := ⟨none, _, _, _, _, _⟩) rfl _ _ rfl w.heap.size ⟨#[]⟩ ⟨#[]⟩ none 0 0 rfl rfl hz1 ?_; intro hst)
    (try simp only [Exit.inBlock, Exit.then])
    refine bodyPost_ret (results_media rfl rfl hst) rfl ?_
    exact ⟨below_setRowI hb1 (Nat.le_refl _) _, .inr ⟨11, 0, HN.out, rfl⟩⟩
  have ht : tokAt s p0 = ((p0 + (tokW (rest s p0)).length : Nat) : Int) := if_pos hok
  obtain ⟨q1, q2, q3⟩ := tokR_rest s p0
  have hal : p0 + (tokW (rest s p0)).length ≤ s.size := by omega
  have hap : p0 ≤ p0 + (tokW (rest s p0)).length := by omega
  rw [ht] at cT
  have hx2 := HX2.out hok
  have hx3 := fun a => HX3.out a hok
  have hx4 := fun a => HX4.out a hok
  have httv := HTT.out
  have hty : ofL (headT s) = s.extract p0 (p0 + (tokW (rest s p0)).length) := by rw [httv, q3]
  rw [q1] at hx2 hx3 hx4
  have hx3' := hx3 (p0 + (tokW (rest s p0)).length) rfl
  have hx4' := hx4 (p0 + (tokW (rest s p0)).length) rfl
  have HY2 := Lib.hid hx2
  have HY3 := Lib.hid hx3'
  have HY4 := Lib.hid hx4'
  have HTY := Lib.hid hty
  clear hx2 hx3 hx4 hx3' hx4' httv hty HX1 HX2 HX3 HX4 HTT ht hok q1 q2 q3
  generalize p0 + (tokW (rest s p0)).length = a at *
  by_cases ha : a < s.size
  case neg =>
    obtain rfl : a = s.size := by omega
    have HN := Lib.hid (HE1.out (HY2.out (rest_nil (Nat.le_refl _))))
    have dg : ¬ (s.size : Int) < 0 := by omega
    go_enter Tryz.func17, Tryz.ntmps17
    go_wp2_with fail
    refine (CB0.out _).mono ?_
    rintro e w2 ⟨rfl, rfl⟩
    go_wp2_with fail
    refine (cT.out _).mono ?_
    rintro e w2 ⟨rfl, rfl⟩
    go_wp2_with (refine wpList_store_media (o := ⟨none, _, _, _, _, _⟩) rfl _ _ rfl w.heap.size ⟨#[]⟩ ⟨#[]⟩ none 0 0 rfl rfl hz1 ?_; intro hst)
    (try simp only [Exit.inBlock, Exit.then])
    refine bodyPost_ret (results_media rfl rfl hst) rfl ?_
    exact ⟨below_setRowI hb1 (Nat.le_refl _) _, .inr ⟨11, 0, HN.out, rfl⟩⟩
  have e1 : ¬ (a : Int) < 0 := by omega
  have e2 : ((a : Int) == (s.size : Int)) = false := by rw [beq_eq_false_iff_ne]; omega
  have haI : (a : Int) < (s.size : Int) := by omega
  by_cases h47 : s[a] = 47
  case neg =>
    have e3 : ((s[a].toNat : Int) != 47) = true := u8_neN (n := 47) (by decide) h47
    have HN := Lib.hid (HE1.out (HY3.out ha h47))
    clear h47
    go_enter Tryz.func17, Tryz.ntmps17
    go_wp2_with fail
    refine (CB0.out _).mono ?_
    rintro e w2 ⟨rfl, rfl⟩
    go_wp2_with fail
    refine (cT.out _).mono ?_
    rintro e w2 ⟨rfl, rfl⟩
    go_wp2_with (refine wpList_store_media (o := ⟨none, _, _, _, _, _⟩) rfl _ _ rfl w.heap.size ⟨#[]⟩ ⟨#[]⟩ none 0 0 rfl rfl hz1 ?_; intro hst)
    (try simp only [Exit.inBlock, Exit.then])
    refine bodyPost_ret (results_media rfl rfl hst) rfl ?_
    exact ⟨below_setRowI hb1 (Nat.le_refl _) _, .inr ⟨11, 0, HN.out, rfl⟩⟩
  have e3 : ((s[a].toNat : Int) != 47) = false := u8_eqN (n := 47) (by decide) h47
  obtain ⟨k1, k2, k3⟩ := head_S (HY4.out ha h47)
  clear h47
  have cT2 : ∀ W, Calls Tryz.prog 37 #[.string s, .int .i64 ((a : Int) + 1)] W fun e w' => e = .returned (.int .i64 (tokAt s (a + 1))) ∧ W = w' := fun W => ref17_token s (a + 1) W (by omega) (by omega)
  by_cases hok : tokOk (tokW (rest s (a + 1))) = true
  case neg =>
    have ht : tokAt s (a + 1) = -1 := if_neg hok
    rw [ht] at cT2
    have HN := Lib.hid (HE1.out (k2.trans (by simp [hok])))
    have CT2 := Lib.hid cT2
    clear hok ht k1 k2 k3 cT2
    go_enter Tryz.func17, Tryz.ntmps17
    go_wp2_with fail
    refine (CB0.out _).mono ?_
    rintro e w2 ⟨rfl, rfl⟩
    go_wp2_with fail
    refine (cT.out _).mono ?_
    rintro e w2 ⟨rfl, rfl⟩
    go_wp2_with fail
    refine (CT2.out _).mono ?_
    rintro e w2 ⟨rfl, rfl⟩
    go_wp2_with (refine wpList_store_media (o := ⟨none, _, _, _, _, _⟩) rfl _ _ rfl w.heap.size ⟨#[]⟩ ⟨#[]⟩ none 0 0 rfl rfl hz1 ?_; intro hst)
    (try simp only [Exit.inBlock, Exit.then])
    refine bodyPost_ret (results_media rfl rfl hst) rfl ?_
    exact ⟨below_setRowI hb1 (Nat.le_refl _) _, .inr ⟨11, 0, HN.out, rfl⟩⟩
  have ht : tokAt s (a + 1) = ((a + 1 + (tokW (rest s (a + 1))).length : Nat) : Int) := if_pos hok
  obtain ⟨q1, q2, q3⟩ := tokR_rest s (a + 1)
  have hbl2 : a + 1 + (tokW (rest s (a + 1))).length ≤ s.size := by omega
  have hba : a + 1 ≤ a + 1 + (tokW (rest s (a + 1))).length := by omega
  rw [ht] at cT2
  have hsub : ofL (headS s) = s.extract (a + 1) (a + 1 + (tokW (rest s (a + 1))).length) := by rw [k1, q3]
  have hR : headR s = rest s (blankN s (a + 1 + (tokW (rest s (a + 1))).length)) := by rw [k3, q1, blankN_rest]
  have hB : headB s = false := k2.trans (by rw [hok]; rfl)
  have HSUB := Lib.hid hsub
  have HR := Lib.hid hR
  have CT2 := Lib.hid cT2
  have HB := Lib.hid hB
  clear ht hok k1 k2 k3 q1 q2 q3 hsub hR hB cT2
  generalize a + 1 + (tokW (rest s (a + 1))).length = b at *
  have hbl3 := blankN_le s b hbl2
  have cB2 := Lib.hid (fun W => ref17_blank s b W (by omega) hbl2)
  rw [HB.out] at HE2 HE3 HE4 HE5
  rw [HR.out] at HE2 HE3 HE4 HE5
  rw [HTY.out, HSUB.out] at HE5
  generalize blankN s b = c0 at *
  have cL : ∀ (y : ByteArray) W, Below (w.alloc (.cells #[.string ⟨#[]⟩, .string ⟨#[]⟩, .slice none 0 0] 24)).heap.size (w.alloc (.cells #[.string ⟨#[]⟩, .string ⟨#[]⟩, .slice none 0 0] 24)) W → (y = s.extract p0 a ∨ y = s.extract (a + 1) b) → Calls Tryz.prog 38 #[.string y] W fun e w' => e = .returned (.string (lowerS y)) ∧ Below (w.alloc (.cells #[.string ⟨#[]⟩, .string ⟨#[]⟩, .slice none 0 0] 24)).heap.size (w.alloc (.cells #[.string ⟨#[]⟩, .string ⟨#[]⟩, .slice none 0 0] 24)) w' ∧ Below W.heap.size W w' := by
    rintro y W hW (rfl | rfl)
    · exact (ref_Lower _ W (by rw [ByteArray.size_extract]; omega)).mono fun _ _ ⟨h1, h2⟩ => ⟨h1, Bt hW h2, h2⟩
    · exact (ref_Lower _ W (by rw [ByteArray.size_extract]; omega)).mono fun _ _ ⟨h1, h2⟩ => ⟨h1, Bt hW h2, h2⟩
  have CL := Lib.hid cL
  have z1 : (p0 : Int) ≤ (a : Int) := by omega
  have z2 : (a : Int) ≤ (s.size : Int) := by omega
  have z3 : (a : Int) + 1 ≤ (b : Int) := by omega
  have z4 : (b : Int) ≤ (s.size : Int) := by omega
  have z5 : (0 : Int) ≤ (p0 : Int) := by omega
  have z6 : (0 : Int) ≤ (a : Int) + 1 := by omega
  have z7 : IntKind.i64.wrap ((a : Int) + 1) = (a : Int) + 1 := IntWalk.i64_in _ (by omega)
  have hk1 : Below (w.alloc (.cells #[.string ⟨#[]⟩, .string ⟨#[]⟩, .slice none 0 0] 24)).heap.size (w.alloc (.cells #[.string ⟨#[]⟩, .string ⟨#[]⟩, .slice none 0 0] 24)) (w.alloc (.cells #[.string ⟨#[]⟩, .string ⟨#[]⟩, .slice none 0 0] 24)).drew := (Below.refl _ _).drew
  have hA : MediaAt ((w.alloc (.cells #[.string ⟨#[]⟩, .string ⟨#[]⟩, .slice none 0 0] 24)).alloc (.cells #[.string ⟨#[]⟩, .string ⟨#[]⟩, .slice none 0 0] 24)).drew (w.heap.size + 1) ⟨#[]⟩ ⟨#[]⟩ none 0 0 := by
    have := heap_alloc_new (w.alloc (.cells #[.string ⟨#[]⟩, .string ⟨#[]⟩, .slice none 0 0] 24)) (.cells #[.string ⟨#[]⟩, .string ⟨#[]⟩, .slice none 0 0] 24)
    rw [World.size_alloc] at this
    exact this
  have hk2 : Below (w.alloc (.cells #[.string ⟨#[]⟩, .string ⟨#[]⟩, .slice none 0 0] 24)).heap.size (w.alloc (.cells #[.string ⟨#[]⟩, .string ⟨#[]⟩, .slice none 0 0] 24)) ((w.alloc (.cells #[.string ⟨#[]⟩, .string ⟨#[]⟩, .slice none 0 0] 24)).alloc (.cells #[.string ⟨#[]⟩, .string ⟨#[]⟩, .slice none 0 0] 24)).drew := (below_al (Below.refl _ _)).drew
  clear cL
  go_enter Tryz.func17, Tryz.ntmps17
  go_wp2_with fail
  refine (CB0.out _).mono ?_
  rintro e w2 ⟨rfl, rfl⟩
  go_wp2_with fail
  refine (cT.out _).mono ?_
  rintro e w2 ⟨rfl, rfl⟩
  go_wp2_with fail
  refine (CT2.out _).mono ?_
  rintro e w2 ⟨rfl, rfl⟩
  go_upto_region 10 with (fail)
  go_cut [7] (fun x wx => ∃ g, x = .pointer (some ⟨g, 0, none⟩) ∧ MediaAt wx g (lowerS (s.extract p0 a)) (lowerS (s.extract (a + 1) b)) none 0 0 ∧ Below (w.alloc (.cells #[.string ⟨#[]⟩, .string ⟨#[]⟩, .slice none 0 0] 24)).heap.size (w.alloc (.cells #[.string ⟨#[]⟩, .string ⟨#[]⟩, .slice none 0 0] 24)) wx ∧ (w.alloc (.cells #[.string ⟨#[]⟩, .string ⟨#[]⟩, .slice none 0 0] 24)).heap.size ≤ g)
  case first =>
    clear CB0 cT CT2 cB2
    go_region_law (go_simp; go_at_call 38; refine (CL.out _ _ (by first | assumption | exact below_al (by assumption)) (by first | exact .inl rfl | exact .inr rfl)).mono ?_; rintro e w5 ⟨rfl, hk5, hb5⟩; have hzz := hk5.size; (try have hmm := MediaAt.below (by assumption) hb5); (try have hmm := MediaAt.below MediaAt.new hb5); (try have hmm0 := hmm.cells.1); (try have hmm1 := hmm.cells.2.1); (try have hmm2 := hmm.cells.2.2); (try have hmf0 := hmm.frozen 0); (try have hmf1 := hmm.frozen 1); (try have hmf2 := hmm.frozen 2); dsimp only)
    all_goals
      go_wp2_with fail
      go_meet
      have hgg : (w.alloc (.cells #[.string ⟨#[]⟩, .string ⟨#[]⟩, .slice none 0 0] 24)).heap.size ≤ w.heap.size + 1 := by simp
      first
      | exact ⟨_, rfl, MediaAt.new, hk5.alloc hk5.size _, hk5.size⟩
      | exact ⟨_, rfl, ((hmm.setType _).setSub _).setParams _ _ _, ((hk5.setCell (by first | exact hgg | assumption) _).setCell (by first | exact hgg | assumption) _).setCell (by first | exact hgg | assumption) _, (by first | exact hgg | assumption)⟩
  case rest =>
    obtain ⟨g, rfl, hm3, hk3, hg⟩ := hcut
    have hz3 := hz1.below hk3
    have hb3 := hb1.trans (hk3.mono (by omega))
    have hg1 : w.heap.size < g := by omega
    have hgl := hm3.lt
    clear CB0 cT CT2 CL hz1 hb1 hs1 hk1 hk2 hA hk3 hg HSUB HR HTY HB HE1 HY2 HY3 HY4 z1 z2 z3 z4 z5 z6 z7
    generalize lowerS (s.extract p0 a) = tT at *
    generalize lowerS (s.extract (a + 1) b) = tS at *
    have hm0 : MediaAt wc g tT tS none ([] : List It).length 0 := hm3
    clear hm3
    go_wp2_with fail
    refine (cB2.out _).mono ?_
    rintro e w2 ⟨rfl, rfl⟩
    go_wp2_with fail
    go_loopw [4] (fun x wr => ∃ (i : Nat) (acc : List It) (pa : Option Addr) (c : Nat), i ≤ s.size ∧ x = .int .i64 (i : Int) ∧ MediaAt wr g tT tS pa acc.length c ∧ MediaAt wr w.heap.size ⟨#[]⟩ ⟨#[]⟩ none 0 0 ∧ OwnI wr (g + 1) (.slice pa acc.length c) acc ∧ Below w.heap.size w wr ∧ g < wr.heap.size ∧ parR (rest s c0) [] = parR (rest s i) acc ∧ acc.length ≤ i) (fun x _ => s.size - (intOf x).toNat)
    case atStart => exact ⟨c0, [], none, 0, hbl3.2, rfl, hm0, hz3, OwnI.nil _ _, hb3, hgl, rfl, by simp⟩
    case round =>
      obtain ⟨i, acc, pa, c, his, rfl, hm, hz, hown, hbr, hgr, hpar, hac⟩ := hrel
      clear hm0 hz3 hb3 hgl cB2
      by_cases hlt : i < s.size
      · have hiI : (i : Int) < (s.size : Int) := by omega
        have hne : rest s i ≠ [] := by rw [rest_cons hlt]; simp
        have HOK := Lib.hid (fun y b' h => hpar.trans (parR_some (acc := acc) (x := y) (r := rest s b') hne h))
        have HNO := Lib.hid (fun h => hpar.trans (parR_none (acc := acc) hne h))
        have cP := Lib.hid (ref17_param s i wr hs (by omega))
        clear hpar hne
        go_wp2_with fail
        refine cP.out.mono ?_
        rintro e w4 ⟨hk4, h⟩
        have hm4 := hm.below hk4
        have hz4 := hz.below hk4
        have ho4 := hown.below hk4
        have hb4 := Bt hbr hk4
        have hs4 : g < w4.heap.size := Nat.lt_of_lt_of_le hgr hk4.size
        clear hm hz hown hbr hgr hk4 cP
        rcases h with ⟨x, b', hab, hbs, hpg, rfl⟩ | ⟨hpg, rfl⟩
        · obtain ⟨xn, xv, xh⟩ := x
          have HX := Lib.hid (HOK.out _ _ hpg)
          clear hpg HOK HNO
          have hstA := (Below.refl w4.heap.size w4).alloc (Nat.le_refl _) (.cells #[.string xn, .string xv, .bool xh] 37)
          have hm6 := hm4.below hstA
          have hz6 := hz4.below hstA
          have ho6 := ho4.below hstA
          have hb6 := hb4.alloc hb4.size (.cells #[.string xn, .string xv, .bool xh] 37)
          have hstB := (Below.refl (w4.alloc (.cells #[.string xn, .string xv, .bool xh] 37)).heap.size (w4.alloc (.cells #[.string xn, .string xv, .bool xh] 37))).alloc (Nat.le_refl _) (.cells #[.string xn, .string xv, .bool xh] 37)
          have hm7 := hm6.below hstB
          have hz7 := hz6.below hstB
          have ho7 := ho6.below hstB
          have hb7 := hb6.alloc hb6.size (.cells #[.string xn, .string xv, .bool xh] 37)
          have hl3 := (ItemAt.new (w := w4) (n := xn) (v := xv) (b := xh)).load
          have c2 := hm6.cells.2.2
          have hge : ¬ ((b' : Nat) : Int) < 0 := by omega
          clear hm4 hz4 ho4 hb4 hstA hstB hz6 ho6 hb6 hm6
          go_wp2_with (at_builtin; refine wpList_app_item rfl (.tmp 72) (.tmp 74) rfl (g + 1) _ _ rfl ho7 (w4.heap.size + 1) 1 ⟨xn, xv, xh⟩ rfl (by have := heap_alloc_new (w4.alloc (.cells #[.string xn, .string xv, .bool xh] 37)) (.cells #[.string xn, .string xv, .bool xh] 37); rw [World.size_alloc] at this; exact this) (by omega) (by simp; omega) ?_)
          intro v8 w8 ho8 hg8
          have hk8 := (Below.refl (g + 1) ((w4.alloc (.cells #[.string xn, .string xv, .bool xh] 37)).alloc (.cells #[.string xn, .string xv, .bool xh] 37))).grown hg8 (by simp; omega) (fun j hj => (World.ownsRow.lt ho7 j hj).1)
          obtain ⟨pa8, c8, rfl, _, _, _⟩ := ho8.sl
          have hm8 : MediaAt w8 g tT tS pa acc.length c := (hk8.block g (by omega)).trans hm7
          have hz8 : MediaAt w8 w.heap.size ⟨#[]⟩ ⟨#[]⟩ none 0 0 := (hk8.block w.heap.size (by omega)).trans hz7
          have hb8 : Below w.heap.size w w8 := hb7.trans (hk8.mono (by omega))
          have hs8 : g < w8.heap.size := by have := hk8.size; simp at this; omega
          have d2 := hm8.cells.2.2
          have f2 := hm8.frozen 2
          have hm9 := hm8.setParams pa8 (acc ++ [({ name := xn, value := xv, has := xh } : It)]).length c8
          have hz9 := hz8.setOther (q := g) (by omega) 2 (.slice pa8 (acc ++ [({ name := xn, value := xv, has := xh } : It)]).length c8)
          have ho9 : OwnI (w8.setCell ⟨g, 2, none⟩ (.slice pa8 (acc ++ [({ name := xn, value := xv, has := xh } : It)]).length c8)) (g + 1) (.slice pa8 (acc ++ [({ name := xn, value := xv, has := xh } : It)]).length c8) (acc ++ [({ name := xn, value := xv, has := xh } : It)]) := ownsRow_setCell_below ho8 (a := ⟨g, 2, none⟩) (show g < g + 1 by omega) (.slice pa8 (acc ++ [({ name := xn, value := xv, has := xh } : It)]).length c8)
          have hb9 := hb8.setCell (show w.heap.size ≤ (⟨g, 2, none⟩ : Addr).block from by show w.heap.size ≤ g; omega) (.slice pa8 (acc ++ [({ name := xn, value := xv, has := xh } : It)]).length c8)
          clear hk8 hg8 hm7 hz7 ho7 hb7 hm8 hz8 ho8 hb8 hl3 c2
          go_wp2_with fail
          go_roundw
          case rel => exact ⟨b', acc ++ [({ name := xn, value := xv, has := xh } : It)], pa8, c8, hbs, by first | rfl | trivial, by simpa using hm9, by simpa using hz9, by simpa using ho9, by simpa using hb9, by simpa using hs8, HX.out, by simp; omega⟩
          case measure => simp [intOf]; omega
        · have HX := Lib.hid (HE2.out trivial (HNO.out hpg))
          have hst5 := (Below.refl w4.heap.size w4).alloc (Nat.le_refl _) (.cells #[.string ⟨#[]⟩, .string ⟨#[]⟩, .bool false] 37)
          have hz5 := hz4.below hst5
          have hb5 := hb4.alloc hb4.size (.cells #[.string ⟨#[]⟩, .string ⟨#[]⟩, .bool false] 37)
          clear hpg HOK HNO hm4 ho4 hz4 hb4 hst5
          go_wp2_with (refine wpList_store_media (o := ⟨none, _, _, _, _, _⟩) rfl _ _ rfl w.heap.size ⟨#[]⟩ ⟨#[]⟩ none 0 0 rfl rfl hz5 ?_; intro hst)
          (try simp only [Exit.inBlock, Exit.then])
          refine bodyPost_ret (results_media rfl rfl hst) rfl ?_
          exact ⟨below_setRowI hb5 (Nat.le_refl _) _, .inr ⟨11, 0, HX.out, rfl⟩⟩
      · obtain rfl : i = s.size := by omega
        rw [rest_nil (s := s) (i := s.size) (Nat.le_refl _), parR_nil] at hpar
        have m2 := hm.cells.2.2
        by_cases h8 : 8 < acc.length
        · have HX := Lib.hid (HE3.out acc trivial hpar h8)
          have h8I : (acc.length : Int) > 8 := by omega
          clear hpar h8
          go_wp2_with (refine wpList_store_media (o := ⟨none, _, _, _, _, _⟩) rfl _ _ rfl w.heap.size ⟨#[]⟩ ⟨#[]⟩ none 0 0 rfl rfl hz ?_; intro hst)
          (try simp only [Exit.inBlock, Exit.then])
          refine bodyPost_ret (results_media rfl rfl hst) rfl ?_
          exact ⟨below_setRowI hbr (Nat.le_refl _) _, .inr ⟨15, 0, HX.out, rfl⟩⟩
        · have h8I : ¬ (acc.length : Int) > 8 := by omega
          obtain ⟨pa', c', hsv, hcl, hcm, hsl⟩ := hown.sl
          cases hsv
          have HE4' := Lib.hid (fun h => HE4.out acc trivial hpar h8 h)
          have HE5' := Lib.hid (fun h => HE5.out acc trivial hpar h8 h)
          have h10 : acc.length ≤ 8 := by omega
          clear hpar h8 hown HE2 HE3 HE4 HE5 hac
          go_wp2_with fail
          generalize wr = wL at *
          go_loopw [10] (fun x wq => ∃ i : Nat, i ≤ acc.length ∧ x = .int .i64 i ∧ Below wL.heap.size wL wq ∧ ∀ (j : Nat) (y : It), j < i → acc[j]? = some y → ((acc.take j).any fun z => decide (z.name = y.name)) = false) (fun x _ => acc.length - (intOf x).toNat)
          case atStart => exact ⟨0, Nat.zero_le _, rfl, Below.refl _ _, fun j y h => by omega⟩
          case round =>
            obtain ⟨i, hil, rfl, hbq, hall⟩ := hrel
            have HA := Lib.hid hall
            have hmq := hm.below hbq
            have hslq := hsl.below hbq
            have m2q := hmq.cells.2.2
            clear hall
            by_cases hlt : i < acc.length
            · obtain ⟨x, hx⟩ : ∃ x, acc[i]? = some x := ⟨_, List.getElem?_eq_getElem hlt⟩
              have hiI : (i : Int) < (acc.length : Int) := by omega
              have hdy := fun h => HE4'.out (dupN_yes (l := acc) (i := i) (x := x) hx h)
              have hst : ((acc.take i).any fun z => decide (z.name = x.name)) = false → ∀ (j : Nat) (y : It), j < i + 1 → acc[j]? = some y → ((acc.take j).any fun z => decide (z.name = y.name)) = false := fun h j y hj hy => by
                by_cases hji : j = i
                · subst hji; rw [hx] at hy; cases hy; exact h
                · exact HA.out j y (by omega) hy
              have HDY := Lib.hid hdy
              have HST := Lib.hid hst
              have HXI := Lib.hid hx
              clear hdy hst hx HA
              go_wp2_with fail
              generalize wr = wM at *
              go_loopw [11] (fun x0 wq => ∃ k : Nat, k ≤ i ∧ x0 = .int .i64 k ∧ Below wM.heap.size wM wq ∧ ∀ (j : Nat) (y : It), j < k → acc[j]? = some y → y.name ≠ x.name) (fun x _ => i - (intOf x).toNat)
              case atStart => exact ⟨0, Nat.zero_le _, rfl, Below.refl _ _, fun j y h => by omega⟩
              case round =>
                obtain ⟨k, hki, rfl, hbk, hall⟩ := hrel
                have HA := Lib.hid hall
                have hmk := hmq.below hbk
                have hslk := hslq.below hbk
                have hbqk := Bt hbq hbk
                have m2k := hmk.cells.2.2
                clear hall
                by_cases hk : k < i
                · obtain ⟨y, hy⟩ : ∃ y, acc[k]? = some y := ⟨_, List.getElem?_eq_getElem (by omega)⟩
                  obtain ⟨b1, rfl, hb1, d0, _, _⟩ := hslk i x HXI.out
                  obtain ⟨b2, e12, hb2, d3, _, _⟩ := hslk k y hy
                  injection e12 with e12
                  injection e12 with e12
                  subst e12
                  have hkI : (k : Int) < (i : Int) := by omega
                  have hkI2 : (k : Int) < (acc.length : Int) := by omega
                  have he : (y.name.toList == x.name.toList) = decide (y.name = x.name) := str_eqB _ _
                  have hany : y.name = x.name → ((acc.take i).any fun z => decide (z.name = x.name)) = true := fun h => by
                    rw [List.any_eq_true]
                    exact ⟨y, List.mem_of_getElem? (i := k) (by rw [List.getElem?_take, if_pos hk]; exact hy), decide_eq_true h⟩
                  have hnx : y.name ≠ x.name → ∀ (j : Nat) (z : It), j < k + 1 → acc[j]? = some z → z.name ≠ x.name := fun h j z hj hz => by
                    by_cases hjk : j = k
                    · subst hjk; rw [hy] at hz; cases hz; exact h
                    · exact HA.out j z (by omega) hz
                  have HANY := Lib.hid hany
                  have HNX := Lib.hid hnx
                  clear hany hnx hy hslk
                  generalize hyn : y.name = yn at *
                  generalize hxn : x.name = xn at *
                  clear hyn
                  by_cases hyx : yn = xn
                  · have HX := Lib.hid (HDY.out (HANY.out hyx))
                    rw [decide_eq_true hyx] at he
                    have hz5 := hz.below hbqk
                    have hb5 := Bt hbr hbqk
                    clear hyx HANY HNX HDY HST
                    go_wp2_with fail
                    go_quiet (fail)
                    go_wp2_with (refine wpList_store_media (o := ⟨none, _, _, _, _, _⟩) rfl _ _ rfl w.heap.size ⟨#[]⟩ ⟨#[]⟩ none 0 0 rfl rfl (hz5.drewN _) ?_; intro hst)
                    (try simp only [Exit.inBlock, Exit.then])
                    refine bodyPost_ret (results_media rfl rfl hst) rfl ?_
                    exact ⟨below_setRowI (below_drewN hb5 _) (Nat.le_refl _) _, .inr ⟨31, 0, HX.out, rfl⟩⟩
                  · have HX := Lib.hid (HNX.out hyx)
                    rw [decide_eq_false hyx] at he
                    clear hyx HANY HNX
                    go_wp2_with fail
                    go_quiet (fail)
                    go_wp2_with fail
                    go_roundw
                    case rel => exact ⟨k + 1, by omega, by go_num, below_drewN hbk _, HX.out⟩
                    case measure => simp [intOf]; omega
                · obtain rfl : k = i := by omega
                  have hno : ((acc.take k).any fun z => decide (z.name = x.name)) = false := by
                    rw [List.any_eq_false]
                    intro z hz
                    obtain ⟨j, hj, rfl⟩ := List.mem_iff_getElem.1 hz
                    rw [List.length_take] at hj
                    rw [List.getElem_take]
                    exact fun h => HA.out j _ (by omega) (List.getElem?_eq_getElem (by omega)) (of_decide_eq_true h)
                  have HX := Lib.hid (HST.out hno)
                  clear hno HDY HST
                  go_wp2_with fail
                  go_roundw
                  case rel => exact ⟨k + 1, by omega, by go_num, hbqk, HX.out⟩
                  case measure => simp [intOf]; omega
            · obtain rfl : i = acc.length := by omega
              have hnd : dupN acc = false := dupN_no fun j y hy => HA.out j y (List.getElem?_eq_some_iff.1 hy).1 hy
              have HX := Lib.hid (HE5'.out hnd)
              have hzq := hz.below hbq
              have hbwr := Bt hbr hbq
              have hld := hmq.load
              obtain ⟨k0, k1, k2⟩ := hmq.cells
              have HSL := Lib.hid hslq
              clear hnd hslq HE4' HE5'
              go_wp2_with (refine wpList_store_media (o := ⟨none, _, _, _, _, _⟩) rfl _ _ rfl w.heap.size tT tS pa acc.length c rfl rfl hzq ?_; intro hst)
              (try simp only [Exit.inBlock, Exit.then])
              refine bodyPost_ret (results_media rfl rfl hst) rfl ?_
              exact ⟨below_setRowI hbwr (Nat.le_refl _) _, .inl ⟨_, HX.out, pa, c, rfl, HSL.out.setMedia hzq _⟩⟩
theorem ref17_Parse (s : ByteArray) (w : World) : Calls Tryz.prog 17 #[.string s] w (RParse17 s w) := by
  by_cases h : s.size ≤ 1000
  · exact ref17_Parse_short s w h
  · exact ref17_Parse_long s w (by omega)
end Go.Proofs.YtndppcklpcfikaaGreatDoor

/- The reference of chapter 17: Accept. -/
namespace Go.Proofs.YtndppcklpcfikaaGreatDoor
open Go.RowKit

theorem lower_utf8 : lowerS utf8S = utf8S := by decide +kernel
end Go.Proofs.YtndppcklpcfikaaGreatDoor
