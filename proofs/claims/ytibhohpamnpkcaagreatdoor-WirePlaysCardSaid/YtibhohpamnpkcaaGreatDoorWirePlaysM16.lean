/- media.Parse. -/
import Derived.Test.YtibhohpamnpkcaaGreatDoorWirePlaysM15
import Derived.Test.YtibhohpamnpkcaaGreatDoorWirePlaysM3
import Derived.Deep.RegionLaw
import Derived.Deep.AppendLies
import Derived.Deep.LoopGhost
import Derived.Deep.DeepCutAuto

namespace Go.Proofs.YtibhohpamnpkcaaGreatDoor
open Go.RowKit

def MParsePost (s : ByteArray) (w : World) (e : Ending) (w' : World) : Prop := Below w.heap.size w w' ∧
  ((∃ m, parseM s = .ok m ∧ ∃ pa c, e = .returned (.tuple #[.agg #[.string m.type, .string m.sub, .slice pa m.params.length c], .nilIface]) ∧ m.params.length ≤ c ∧ c ≤ maxLen ∧ ItemsOwn w' pa m.params) ∨
   (∃ k i, parseM s = .error (k, i) ∧ ∃ v, e = .returned (.tuple #[.agg #[.string ⟨#[]⟩, .string ⟨#[]⟩, .slice none 0 0], v]) ∧ IsFault w' v (k : Int) (i : Int)))
set_option maxHeartbeats 1600000 in
set_option maxRecDepth 100000 in
theorem media_Parse_long (s : ByteArray) (w : World) (hs : 1000 < s.size) : Calls Tryz.prog 71 #[.string s] w (MParsePost s w) := by
  have hp : parseM s = .error (14, 1000) := by unfold parseM; rw [if_pos hs]
  have HP := Lib.hid hp
  have hsI : (s.size : Int) > 1000 := by omega
  have hst : Below w.heap.size w (w.alloc (.cells #[.string ⟨#[]⟩, .string ⟨#[]⟩, .slice none 0 0] 147)) := (Below.refl _ _).alloc (Nat.le_refl _) _
  have hm : MediaAt (w.alloc (.cells #[.string ⟨#[]⟩, .string ⟨#[]⟩, .slice none 0 0] 147)) w.heap.size ⟨#[]⟩ ⟨#[]⟩ none 0 0 := MediaAt.new
  clear hp
  go_enter Tryz.func71, Tryz.ntmps71
  go_wp2_with fail
  refine (api_Fail' 14 1000 _).mono ?_
  rintro e w2 ⟨v, rfl, hv, hb2⟩
  have hm2 := hm.below hb2
  have hb12 := Bt hst hb2
  have HV := Lib.hid hv
  obtain ⟨q, rfl⟩ := hv.ne_nil
  clear hv hb2 hst hm
  go_wp2_with (refine wpList_store_media (o := ⟨none, _, _, _, _, _⟩) rfl _ _ rfl w.heap.size ⟨#[]⟩ ⟨#[]⟩ none 0 0 rfl rfl hm2 ?_; intro hst)
  (try simp only [Exit.inBlock, Exit.then])
  refine bodyPost_ret (results_media rfl rfl hst) rfl ?_
  exact ⟨below_setRowI hb12 (Nat.le_refl _) _, .inr ⟨14, 1000, HP.out, _, rfl, HV.out.setMedia hm2 _⟩⟩
set_option maxHeartbeats 800000 in
theorem parse_fn (b : Nat) (n v : ByteArray) (h : Bool) (w : World) (hb : ItemAt w b n v h) : TestI w 98 #[.pointer (some ⟨b, 0, none⟩)] (fun x => decide (x.name = n)) := by
  intro W x hW
  obtain ⟨xn, xv, xh⟩ := x
  have hst : Below W.heap.size W (W.alloc (.cells #[.string xn, .string xv, .bool xh] 102)) := (Below.refl _ _).alloc (Nat.le_refl _) _
  have h1 := (hb.below hW).below hst
  obtain ⟨c0, _, _⟩ := h1.cells
  have he : (xn.toList == n.toList) = decide (xn = n) := str_eqB xn n
  have HE := Lib.hid he
  clear he
  show Calls Tryz.prog 98 #[.agg #[.string xn, .string xv, .bool xh], .pointer (some ⟨b, 0, none⟩)] W _
  go_enter Tryz.func98, Tryz.ntmps98
  go_wp2_with fail
  go_ret
  exact ⟨ret_bool HE.out, hst⟩
theorem MediaAt.but {w w' : World} {g B q : Nat} {n v : ByteArray} {pa : Option Addr} {l c : Nat} (h : MediaAt w g n v pa l c) (hb : ButB B q w w') (h1 : g < B) (h2 : g ≠ q) : MediaAt w' g n v pa l c := (hb.block g h1 h2).trans h
theorem ItemsOwn.setMedia {w : World} {a : Option Addr} {l : List It} {g : Nat} {n v : ByteArray} {pa : Option Addr} {k c : Nat} (h : ItemsOwn w a l) (hg : MediaAt w g n v pa k c) (ds : Array Value) : ItemsOwn (w.setRow g ds) a l := by
  intro i p hp
  obtain ⟨b, e, hb, h0, h1, h2⟩ := h i p hp
  have hne : b ≠ g := by
    rintro rfl
    unfold MediaAt at hg
    rw [cell_of_row w b _ _ _ _ hg] at h2
    cases i with
    | zero => simp at h2
    | succ i => simp at h2
  have hk : (w.setRow g ds).heap[b]? = w.heap[b]? := setRow_other w g b ds hne
  exact ⟨b, e, by simpa using hb, (World.cell?_of_block hk).trans h0, (World.cell?_of_block hk).trans h1, (World.cell?_of_block hk).trans h2⟩
/-- What param leaves, in one form. -/
theorem rd_param1 (p : Nat) (l : List UInt8) (w : World) (h : RdAt w p l false) (hl : l.length ≤ 1000000) :
    Calls Tryz.prog 96 #[.pointer (some ⟨p, 0, none⟩)] w fun e w' => ButB w.heap.size p w w' ∧ ∃ (xn xv : ByteArray) (xh bb : Bool) (r : List UInt8), e = .returned (.agg #[.string xn, .string xv, .bool xh]) ∧ RdAt w' p r bb ∧ ((bb = false ∧ paramG l = some (⟨xn, xv, xh⟩, r)) ∨ (bb = true ∧ paramG l = none)) :=
  (rd_param w.heap.size p l w h (Nat.le_refl _) hl).mono fun e w' ⟨hk, h⟩ => by
    refine ⟨hk, ?_⟩
    rcases h with ⟨x, r, hp, rfl, hr⟩ | ⟨hp, x, r, rfl, hr⟩
    · exact ⟨x.name, x.value, x.has, false, r, rfl, hr, .inl ⟨rfl, hp⟩⟩
    · exact ⟨x.name, x.value, x.has, true, r, rfl, hr, .inr ⟨rfl, hp⟩⟩
theorem ButB.grown {q : Nat} {w w' : World} (h : ButB w.heap.size q w w') : w.grownBy w' (some q) := ⟨h.os, h.tape, h.output, h.size, fun k hk hne => h.block k hk (fun e => hne (by rw [e]))⟩
theorem OwnI.but {w w' : World} {base q : Nat} {v : Value} {l : List It} (h : OwnI w base v l) (hb : ButB w.heap.size q w w') (hq : q < base) : OwnI w' base v l := by
  refine World.ownsRow.kept h hb.grown ?_
  cases hv : v.ownBlock with
  | none => exact .inl rfl
  | some k => exact .inr fun e => by injection e with e; have := (World.ownsRow.lt h k hv).1; omega
/-- One more item, at a step of a region that draws its order. -/
theorem step_item {w : World} {ops : Array Oper} {o : Oper} {a : Act} {K : Act → World → Prop} {Q : Exit → Act → World → Prop} {E : Prop} (hgd : o.guard = none) (s x : Operand) (ho : o.op = .call { callee := .builtin .append, args := #[s, x], argTypes := #[60, 60] })
    (base : Nat) (pa : Option Addr) (c : Nat) (acc : List It) (y : It) (hs : a.eval s = .slice pa acc.length c) (hown : OwnI w base (.slice pa acc.length c) acc) (g0 : Nat) (hx : a.eval x = .slice (some ⟨g0, 0, none⟩) 1 1)
    (hb : w.heap[g0]? = some (.cells (itemC y).toArray 102 (0, 0))) (hl : acc.length ≤ 1000) (hbase : base ≤ w.heap.size)
    (h : ∀ g c4 w4, OwnI w4 base (.slice (some ⟨g, 0, none⟩) (acc ++ [y]).length c4) (acc ++ [y]) → Below base w w4 → K (a.put o.dst (.slice (some ⟨g, 0, none⟩) (acc.length + 1) c4)) w4) :
    if Region.wanted o (yielded ops a.tmps) = true then Oper.wp Tryz.prog o a w K Q else E := by
  obtain ⟨i, hi, hz, hsize, hby⟩ := info_parts info_item
  refine step_append_lies (P := Tryz.prog) w hgd s x 60 ho base 102 i _ 3 40 Tryz.underlying60 hi hz hsize hby rfl (by decide) _ acc.length (itemsV acc) hs hown ⟨g0, 0, none⟩ 1 1 (itemC y) hx rfl
    (by intro j u hj; rw [Addr.add_lit, Nat.zero_add, cell_of_row _ g0 j _ _ _ hb, ← hj]; simp [itemC]) (itemC_one y) (by omega) (by unfold maxLen; omega) (by omega) hbase _ rfl ?_
  intro g c4 w4 h2 h3 h4 h5
  refine h g c4 w4 ?_ ((Below.refl base w).grown h3 hbase (fun j hj => (World.ownsRow.lt hown j hj).1))
  unfold OwnI
  rw [List.length_append, itemsV_app]
  have : itemsV [y] = itemC y := by unfold itemsV; simp
  rw [this]
  exact h2
set_option maxHeartbeats 6400000 in
set_option maxRecDepth 100000 in
theorem media_Parse_short (s : ByteArray) (w : World) (hs : s.size ≤ 1000) : Calls Tryz.prog 71 #[.string s] w (MParsePost s w) := by
  have hl0 : s.data.toList.length ≤ 1000 := hs
  have hT : headT s = tokW (blankL s.data.toList) := rfl
  have hM : headM s = markG 47 (tokR (blankL s.data.toList)) (!tokOk (headT s)) := rfl
  have hS : headS s = tokW (headM s).1 := rfl
  have hR : headR s = blankL (tokR (headM s).1) := rfl
  have hB : headB s = ((headM s).2 || !tokOk (headS s)) := rfl
  have HE1 := Lib.hid (fun h => @parseM_bad s hs h)
  have HE2 := Lib.hid (fun h h2 => @parseM_none s hs h h2)
  have HE3 := Lib.hid (fun l h h2 h3 => @parseM_many s l hs h h2 h3)
  have HE4 := Lib.hid (fun l h h2 h3 h4 => @parseM_dup s l hs h h2 h3 h4)
  have HE5 := Lib.hid (fun l h h2 h3 h4 => @parseM_ok s l hs h h2 h3 h4)
  have HM := Lib.hid hM
  have HSS := Lib.hid hS
  have HR := Lib.hid hR
  have HB := Lib.hid hB
  have HT := Lib.hid hT
  clear hM hS hR hB hT
  have hm1 : MediaAt (w.alloc (.cells #[.string ⟨#[]⟩, .string ⟨#[]⟩, .slice none 0 0] 147)) w.heap.size ⟨#[]⟩ ⟨#[]⟩ none 0 0 := MediaAt.new
  have hr1 : RdAt ((w.alloc (.cells #[.string ⟨#[]⟩, .string ⟨#[]⟩, .slice none 0 0] 147)).alloc (.cells #[.string s, .bool false] 187)) (w.heap.size + 1) s.data.toList false := by
    have := heap_alloc_new (w.alloc (.cells #[.string ⟨#[]⟩, .string ⟨#[]⟩, .slice none 0 0] 147)) (.cells #[.string s, .bool false] 187)
    rw [World.size_alloc] at this
    exact this
  have hm2 := hm1.below ((Below.refl (w.alloc (.cells #[.string ⟨#[]⟩, .string ⟨#[]⟩, .slice none 0 0] 147)).heap.size _).alloc (Nat.le_refl _) (.cells #[.string s, .bool false] 187))
  have hb2 : Below w.heap.size w ((w.alloc (.cells #[.string ⟨#[]⟩, .string ⟨#[]⟩, .slice none 0 0] 147)).alloc (.cells #[.string s, .bool false] 187)) := ((Below.refl _ _).alloc (Nat.le_refl _) _).alloc (by simp) _
  have hz2 : ((w.alloc (.cells #[.string ⟨#[]⟩, .string ⟨#[]⟩, .slice none 0 0] 147)).alloc (.cells #[.string s, .bool false] 187)).heap.size = w.heap.size + 2 := by simp
  have cB := Lib.hid (rd_blank (w.heap.size + 2) (w.heap.size + 1) s.data.toList false _ hr1 (by omega))
  clear hm1 hr1
  go_enter Tryz.func71, Tryz.ntmps71
  go_wp2_with fail
  refine cB.out.mono ?_
  rintro e w3 ⟨rfl, hr3, hk⟩
  have hm3 := hm2.but hk (by omega) (by omega)
  have hb3 : Below w.heap.size w w3 := hb2.trans (hk.below (by omega) (by omega))
  have hs3 : w.heap.size + 2 ≤ w3.heap.size := by have := hk.size; omega
  clear hm2 hb2 hk hz2 cB
  have hlb := blankL_len s.data.toList
  have cT := Lib.hid (rd_token (w.heap.size + 2) (w.heap.size + 1) (blankL s.data.toList) false w3 hr3 hs3 (by omega))
  have hlt := tokW_len (blankL s.data.toList)
  have hlr := tokR_len (blankL s.data.toList)
  rw [← HT.out, Bool.false_or] at cT
  rw [← HT.out] at hlt
  clear hr3 HT
  go_wp2_with fail
  refine cT.out.mono ?_
  rintro e w4 ⟨rfl, hr4, hk⟩
  have hm4 := hm3.but hk (by omega) (by omega)
  have hb4 : Below w.heap.size w w4 := hb3.trans (hk.below (by omega) (by omega))
  have hs4 : w.heap.size + 2 ≤ w4.heap.size := by have := hk.size; omega
  clear hm3 hb3 hk hs3 cT
  have cL := Lib.hid (fold_Lower (ofL (headT s)) w4 (by rw [ofL_size]; omega))
  go_wp2_with fail
  refine cL.out.mono ?_
  rintro e w5 ⟨rfl, hk⟩
  have hm5 := hm4.below hk
  have hr5 := hr4.below hk
  have hb5 := Bt hb4 hk
  have hs5 : w.heap.size + 2 ≤ w5.heap.size := by have := hk.size; omega
  have f5 := hm5.frozen 0
  obtain ⟨x5, _, _⟩ := hm5.cells
  have hm6 := hm5.setType (lowerS (ofL (headT s)))
  have hr6 := hr5.setOther (q := w.heap.size) (by omega) 0 (.string (lowerS (ofL (headT s))))
  have hb6 := hb5.setCell (show w.heap.size ≤ (⟨w.heap.size, 0, none⟩ : Addr).block from Nat.le_refl _) (.string (lowerS (ofL (headT s))))
  have hs6 : w.heap.size + 2 ≤ (w5.setCell ⟨w.heap.size, 0, none⟩ (.string (lowerS (ofL (headT s))))).heap.size := by simpa using hs5
  have cM := Lib.hid (rd_mark (w.heap.size + 2) (w.heap.size + 1) (tokR (blankL s.data.toList)) (!tokOk (headT s)) 47 _ hr6 hs6)
  rw [← HM.out] at cM
  have hlm := markG_len 47 (tokR (blankL s.data.toList)) (!tokOk (headT s))
  rw [← HM.out] at hlm
  clear hm4 hr4 hb4 hs4 cL hk hr5 hb5 hm5 hs5 HM hr6
  go_wp2_with fail
  refine cM.out.mono ?_
  rintro e w7 ⟨rfl, hr7, hk⟩
  have hm7 := hm6.but hk (by omega) (by omega)
  have hb7 : Below w.heap.size w w7 := hb6.trans (hk.below (by omega) (by omega))
  have hs7 : w.heap.size + 2 ≤ w7.heap.size := by have := hk.size; omega
  clear hm6 hb6 hk hs6 cM f5 x5
  have cT := Lib.hid (rd_token (w.heap.size + 2) (w.heap.size + 1) (headM s).1 (headM s).2 w7 hr7 hs7 (by omega))
  have hlt2 := tokW_len (headM s).1
  have hlr2 := tokR_len (headM s).1
  rw [← HSS.out, ← HB.out] at cT
  rw [← HSS.out] at hlt2
  clear hr7 HSS HB
  go_wp2_with fail
  refine cT.out.mono ?_
  rintro e w8 ⟨rfl, hr8, hk⟩
  have hm8 := hm7.but hk (by omega) (by omega)
  have hb8 : Below w.heap.size w w8 := hb7.trans (hk.below (by omega) (by omega))
  have hs8 : w.heap.size + 2 ≤ w8.heap.size := by have := hk.size; omega
  clear hm7 hb7 hk hs7 cT
  have cL := Lib.hid (fold_Lower (ofL (headS s)) w8 (by rw [ofL_size]; omega))
  go_wp2_with fail
  refine cL.out.mono ?_
  rintro e w9 ⟨rfl, hk⟩
  have hm9 := hm8.below hk
  have hr9 := hr8.below hk
  have hb9 := Bt hb8 hk
  have hs9 : w.heap.size + 2 ≤ w9.heap.size := by have := hk.size; omega
  have f9 := hm9.frozen 1
  obtain ⟨_, x9, _⟩ := hm9.cells
  have hm10 := hm9.setSub (lowerS (ofL (headS s)))
  have hr10 := hr9.setOther (q := w.heap.size) (by omega) 1 (.string (lowerS (ofL (headS s))))
  have hb10 := hb9.setCell (show w.heap.size ≤ (⟨w.heap.size, 1, none⟩ : Addr).block from Nat.le_refl _) (.string (lowerS (ofL (headS s))))
  have hs10 : w.heap.size + 2 ≤ (w9.setCell ⟨w.heap.size, 1, none⟩ (.string (lowerS (ofL (headS s))))).heap.size := by simpa using hs9
  have cB := Lib.hid (rd_blank (w.heap.size + 2) (w.heap.size + 1) (tokR (headM s).1) (headB s) _ hr10 hs10)
  have hlb2 := blankL_len (tokR (headM s).1)
  rw [← HR.out] at cB hlb2
  clear hm8 hr8 hb8 hs8 cL hk hr9 hb9 hm9 hs9 hr10 HR
  go_wp2_with fail
  refine cB.out.mono ?_
  rintro e w11 ⟨rfl, hr11, hk⟩
  have hm11 := hm10.but hk (by omega) (by omega)
  have hb11 : Below w.heap.size w w11 := hb10.trans (hk.below (by omega) (by omega))
  have hs11 : w.heap.size + 2 ≤ w11.heap.size := by have := hk.size; omega
  clear hm10 hb10 hk hs10 cB f9 x9
  have hlh : (headR s).length ≤ 1000 := by omega
  clear hlb hlt hlr hlm hlt2 hlr2 hlb2 hl0
  generalize lowerS (ofL (headT s)) = tT at *
  generalize lowerS (ofL (headS s)) = tS at *
  generalize headR s = h0 at *
  generalize headB s = hb at *
  generalize (headM s).1 = xx at *
  have hm0 : MediaAt w11 w.heap.size tT tS none ([] : List It).length 0 := hm11
  clear hm11
  go_wp2_with fail
  go_loopg [] (if hb = true then 0 else h0.length) (fun g wr => ∃ (r : List UInt8) (acc : List It) (pa : Option Addr) (c : Nat) (bb : Bool), RdAt wr (w.heap.size + 1) r bb ∧ MediaAt wr w.heap.size tT tS pa acc.length c ∧ OwnI wr (w.heap.size + 2) (.slice pa acc.length c) acc ∧ Below w.heap.size w wr ∧ w.heap.size + 2 ≤ wr.heap.size ∧ acc.length ≤ 1000 ∧ ((bb = false ∧ hb = false ∧ g = r.length ∧ acc.length + r.length ≤ 1000 ∧ parR h0 [] = parR r acc) ∨ (bb = true ∧ (hb = true ∨ (hb = false ∧ parR h0 [] = none)))))
  case atStart =>
    refine ⟨h0, [], none, 0, hb, hr11, hm0, OwnI.nil _ _, hb11, hs11, by simp, ?_⟩
    cases hb with
    | true => exact .inr ⟨rfl, .inl rfl⟩
    | false => exact .inl ⟨rfl, rfl, rfl, by simpa using hlh, rfl⟩
  case round =>
    obtain ⟨r, acc, pa, c, bb, hr, hm, hown, hbr, hsr, hac, hcase⟩ := hrel
    obtain ⟨c0, c1⟩ := hr.cells
    clear hr11 hm0 hb11 hs11
    rcases hcase with ⟨rfl, rfl, rfl, hlen, hpar⟩ | ⟨rfl, hbad⟩
    · cases r with
      | nil =>
        rw [parR_nil] at hpar
        have e0 : (ofL []).toList.isEmpty = true := isEmpty_yes rfl
        have e1 : (ofL []).toList = [] := by simpa using e0
        obtain ⟨_, m1, m2⟩ := hm.cells
        have m0 := hm.cells.1
        by_cases h8 : 8 < acc.length
        · have HP := Lib.hid (HE3.out acc rfl hpar h8)
          have h8I : (acc.length : Int) > 8 := by omega
          clear hpar h8
          go_wp2_with fail
          refine (api_Fail' 15 0 _).mono ?_
          rintro e w2 ⟨v, rfl, hv, hb2⟩
          have hm2 := hm.below hb2
          have hb12 := Bt hbr hb2
          have HV := Lib.hid hv
          obtain ⟨q, rfl⟩ := hv.ne_nil
          clear hv hb2 hm
          go_wp2_with (refine wpList_store_media (o := ⟨none, _, _, _, _, _⟩) rfl _ _ rfl w.heap.size ⟨#[]⟩ ⟨#[]⟩ none 0 0 rfl rfl hm2 ?_; intro hst)
          (try simp only [Exit.inBlock, Exit.then])
          refine bodyPost_ret (results_media rfl rfl hst) rfl ?_
          exact ⟨below_setRowI hb12 (Nat.le_refl _) _, .inr ⟨15, 0, HP.out, _, rfl, HV.out.setMedia hm2 _⟩⟩
        · have h8I : ¬ (acc.length : Int) > 8 := by omega
          obtain ⟨pa', c', hsv, hcl, hcm, hsl⟩ := hown.sl
          cases hsv
          have hbw : Below wr.heap.size wr wr := Below.refl _ _
          have HE4' := Lib.hid (fun h => HE4.out acc rfl hpar h8 h)
          have HE5' := Lib.hid (fun h => HE5.out acc rfl hpar h8 h)
          have hmf : ∀ (fn : Fn) (first cap : Array Value) (w : World), (Instr.makeFunc fn first cap).run Tryz.prog w = .ok (.func fn first cap) w := fun _ _ _ _ => rfl
          have eg := enters_of Tryz.func98 (by kernel_rfl) rfl
          have EG := Lib.hid eg
          unfold maxLen at hcm
          have hb0 := hbr
          have h10 : acc.length ≤ 8 := by omega
          clear hpar h8 hown HE1 HE2 HE3 HE4 HE5 eg
          go_wp2_with fail
          generalize wr = wL at *
          go_loopw [65] (fun x wq => ∃ i : Nat, i ≤ acc.length ∧ x = .int .i64 i ∧ Below wL.heap.size wL wq ∧ ∀ (j : Nat) (y : It), j < i → acc[j]? = some y → ((acc.take j).any fun z => decide (z.name = y.name)) = false) (fun x _ => acc.length - (intOf x).toNat)
          case atStart => exact ⟨0, Nat.zero_le _, rfl, Below.refl _ _, fun j y h => by omega⟩
          case round =>
            obtain ⟨i, hil, rfl, hbq, hall⟩ := hrel
            have HA := Lib.hid hall
            have hmq := hm.below hbq
            have hslq := hsl.below hbq
            have hbwr := Bt hbr hbq
            clear hall
            by_cases hlt : i < acc.length
            · obtain ⟨x, hx⟩ : ∃ x, acc[i]? = some x := ⟨_, List.getElem?_eq_getElem hlt⟩
              obtain ⟨b, rfl, hb, d0, d1, d2⟩ := hslq i x hx
              have hiI : (i : Int) < (acc.length : Int) := by omega
              have hdy := fun h => dupN_yes (l := acc) (i := i) (x := x) hx h
              have hst : ((acc.take i).any fun z => decide (z.name = x.name)) = false → ∀ (j : Nat) (y : It), j < i + 1 → acc[j]? = some y → ((acc.take j).any fun z => decide (z.name = y.name)) = false := fun h j y hj hy => by
                by_cases hji : j = i
                · subst hji; rw [hx] at hy; cases hy; exact h
                · exact HA.out j y (by omega) hy
              have HDY := Lib.hid hdy
              have HST := Lib.hid hst
              obtain ⟨xn, xv, xh⟩ := x
              have hstq := (Below.refl wr.heap.size wr).alloc (Nat.le_refl _) (.cells #[.string xn, .string xv, .bool xh] 102)
              have hslq2 := (hslq.below hstq).take i
              have hmq2 := hmq.below hstq
              obtain ⟨_, _, k2⟩ := hmq2.cells
              have cC := items_ContainsFunc (some ⟨b, 0, none⟩) c (acc.take i) 98 wr.heap.size (fun y => decide (y.name = xn)) _ hslq2 (by rw [List.length_take]; omega) EG.out (parse_fn wr.heap.size xn xv xh _ ItemAt.new)
              rw [List.length_take, Nat.min_eq_left hil] at cC
              have CC := Lib.hid cC
              have hb2 := hbwr.alloc hbwr.size (.cells #[.string xn, .string xv, .bool xh] 102)
              clear hdy hst hx hslq hslq2 cC
              go_wp2_with fail
              refine CC.out.mono ?_
              rintro e w5 ⟨rfl, hb5⟩
              have hm5 := hmq2.below hb5
              have hb6 := Bt hb2 hb5
              have hbq5 := Bt hbq (Bt hstq hb5)
              cases hany : (acc.take i).any fun y => decide (y.name = xn)
              · have HX := Lib.hid (HST.out hany)
                clear hany
                go_wp2_with fail
                go_roundw
                case rel => exact ⟨i + 1, by omega, by go_num, hbq5, HX.out⟩
                case measure => simp [intOf]; omega
              · have HX := Lib.hid (HE4'.out (HDY.out hany))
                clear hany
                go_wp2_with fail
                refine (api_Fail' 31 0 _).mono ?_
                rintro e w7 ⟨v, rfl, hv, hb7⟩
                have hm7 := hm5.below hb7
                have hb17 := Bt hb6 hb7
                have HV := Lib.hid hv
                obtain ⟨q, rfl⟩ := hv.ne_nil
                clear hv hb7 hm5 hb6
                go_wp2_with (refine wpList_store_media (o := ⟨none, _, _, _, _, _⟩) rfl _ _ rfl w.heap.size ⟨#[]⟩ ⟨#[]⟩ none 0 0 rfl rfl hm7 ?_; intro hst)
                (try simp only [Exit.inBlock, Exit.then])
                refine bodyPost_ret (results_media rfl rfl hst) rfl ?_
                exact ⟨below_setRowI hb17 (Nat.le_refl _) _, .inr ⟨31, 0, HX.out, _, rfl, HV.out.setMedia hm7 _⟩⟩
            · obtain rfl : i = acc.length := by omega
              have hnd : dupN acc = false := dupN_no fun j y hy => HA.out j y (List.getElem?_eq_some_iff.1 hy).1 hy
              have HX := Lib.hid (HE5'.out hnd)
              have hld := hmq.load
              obtain ⟨k0, k1, k2⟩ := hmq.cells
              have HSL := Lib.hid hslq
              clear hnd hslq
              go_wp2_with (refine wpList_store_media (o := ⟨none, _, _, _, _, _⟩) rfl _ _ rfl w.heap.size tT tS pa acc.length c rfl rfl hmq ?_; intro hst)
              (try simp only [Exit.inBlock, Exit.then])
              refine bodyPost_ret (results_media rfl rfl hst) rfl ?_
              exact ⟨below_setRowI hbwr (Nat.le_refl _) _, .inl ⟨_, HX.out, pa, c, rfl, hcl, by unfold maxLen; omega, HSL.out.setMedia hmq _⟩⟩
      | cons x r' =>
        have hne : (x :: r') ≠ [] := by simp
        have e0 : (ofL (x :: r')).toList.isEmpty = false := isEmpty_no (ofL_cons_pos x r')
        have hok := fun y r2 h => hpar.trans (parR_some (acc := acc) (x := y) (r := r2) hne h)
        have hno := fun h => hpar.trans (parR_none (acc := acc) hne h)
        have HOK := Lib.hid hok
        have HNO := Lib.hid hno
        have hpl := fun y r2 h => @paramG_len (x :: r') r2 y h
        have HPL := Lib.hid hpl
        have cP := Lib.hid (rd_param1 (w.heap.size + 1) (x :: r') wr.drew hr (by omega))
        have hS0 : wr.cell? ⟨w.heap.size, 2, none⟩ = some (.slice pa acc.length c) := hm.cells.2.2
        have hS1 : wr.drew.cell? ⟨w.heap.size, 2, none⟩ = some (.slice pa acc.length c) := hS0
        have hmd : MediaAt wr.drew w.heap.size tT tS pa acc.length c := hm
        have hod : OwnI wr.drew (w.heap.size + 2) (.slice pa acc.length c) acc := hown
        have hbd : Below w.heap.size w wr.drew := hbr.drew
        have hsd : w.heap.size + 2 ≤ wr.drew.heap.size := hsr
        clear hok hno hpl hne hpar
        go_upto_region 10 with (fail)
        go_region_law
          (first
          | (refine step_item rfl (.tmp 42) (.tmp 45) rfl (w.heap.size + 2) pa c acc ⟨xn, xv, xh⟩ (by simp [Act.eval, Act.put]) ho3 w2.heap.size (by simp [Act.eval, Act.put]) (heap_alloc_new w2 _) hac hs3 ?_; intro g4 c4 w4 hown4 hst4; have hm4 : MediaAt w4 w.heap.size tT tS pa acc.length c := (hst4.block w.heap.size (by omega)).trans hm3; have hS4 := hm4.cells.2.2; have hF4 := hm4.frozen 2)
          | (go_simp; go_at_call 96; refine cP.out.mono ?_; rintro e w2 ⟨hk, xn, xv, xh, bb2, r2, rfl, hr2, hcase⟩; have hm2 := hmd.but hk (by omega) (by omega); have ho2 := hod.but hk (by omega); have hS2 := hm2.cells.2.2; have hst3 := (Below.refl w2.heap.size w2).alloc (Nat.le_refl _) (.cells #[.string xn, .string xv, .bool xh] 102); have hm3 := hm2.below hst3; have ho3 := ho2.below hst3; have hS3 := hm3.cells.2.2; have hb2 : Below w.heap.size w w2 := hbd.trans (hk.below (by omega) (by omega)); have hs2 := Nat.le_trans hsd hk.size; have hs3 := Nat.le_trans hs2 hst3.size; dsimp only))
        all_goals
          have hr4 : RdAt w4 (w.heap.size + 1) r2 bb2 := (hr2.below hst3).below' hst4 (by omega)
          have hr5 := hr4.setOther (q := w.heap.size) (by omega) 2 (.slice (some ⟨g4, 0, none⟩) (acc.length + 1) c4)
          have hm5 := hm4.setParams (some ⟨g4, 0, none⟩) (acc.length + 1) c4
          have ho5 := ownsRow_setCell_below hown4 (a := ⟨w.heap.size, 2, none⟩) (show w.heap.size < w.heap.size + 2 by omega) (.slice (some ⟨g4, 0, none⟩) (acc.length + 1) c4)
          have hb4 : Below w.heap.size w w4 := (hb2.trans (hst3.mono (by omega))).trans (hst4.mono (by omega))
          have hb5 := hb4.setCell (show w.heap.size ≤ (⟨w.heap.size, 2, none⟩ : Addr).block from Nat.le_refl _) (.slice (some ⟨g4, 0, none⟩) (acc.length + 1) c4)
          have hs5 : w.heap.size + 2 ≤ (w4.setCell ⟨w.heap.size, 2, none⟩ (.slice (some ⟨g4, 0, none⟩) (acc.length + 1) c4)).heap.size := by have := hst4.size; simp; omega
          have HLEN := Lib.hid hlen
          simp only [List.length_cons] at hlen
          clear hr4 hm4 hown4 hb4 hr2 hst3 hst4 hm2 hm3 ho3 hS2 hS3 hS4 hF4 hS0 hS1 hmd hod hbd hsd hr hm hown hbr hk cP
          rcases hcase with ⟨rfl, hpg⟩ | ⟨rfl, hpg⟩
          · have HX := Lib.hid (HOK.out _ _ hpg)
            have hl2 := HPL.out _ _ hpg
            simp only [List.length_cons] at hl2
            clear hpg
            go_wp2_with fail
            go_roundg r2.length
            case measure => first | omega | (simp; omega)
            case rel => exact ⟨r2, acc ++ [({ name := xn, value := xv, has := xh } : It)], some ⟨g4, 0, none⟩, c4, false, hr5, by have := hm5; simpa using this, ho5, hb5, hs5, by simp; omega, .inl ⟨by first | rfl | trivial, by first | rfl | trivial, by first | rfl | trivial, by simp; omega, HX.out⟩⟩
          · have HX := Lib.hid (HNO.out hpg)
            clear hpg
            go_wp2_with fail
            go_roundg 0
            case measure => first | omega | simp
            case rel => exact ⟨r2, acc ++ [({ name := xn, value := xv, has := xh } : It)], some ⟨g4, 0, none⟩, c4, true, hr5, by have := hm5; simpa using this, ho5, hb5, hs5, by simp; omega, .inr ⟨by first | rfl | trivial, .inr ⟨by first | rfl | trivial, HX.out⟩⟩⟩
    · have HBAD : parseM s = .error (11, 0) := by
        rcases hbad with h | ⟨h, h2⟩
        · exact HE1.out h
        · exact HE2.out h h2
      have HP := Lib.hid HBAD
      clear HBAD hbad
      go_wp2_with fail
      refine (api_Fail' 11 0 _).mono ?_
      rintro e w2 ⟨v, rfl, hv, hb2⟩
      have hm2 := hm.below hb2
      have hb12 := Bt hbr hb2
      have HV := Lib.hid hv
      obtain ⟨q, rfl⟩ := hv.ne_nil
      clear hv hb2 hm
      go_wp2_with (refine wpList_store_media (o := ⟨none, _, _, _, _, _⟩) rfl _ _ rfl w.heap.size ⟨#[]⟩ ⟨#[]⟩ none 0 0 rfl rfl hm2 ?_; intro hst)
      (try simp only [Exit.inBlock, Exit.then])
      refine bodyPost_ret (results_media rfl rfl hst) rfl ?_
      exact ⟨below_setRowI hb12 (Nat.le_refl _) _, .inr ⟨11, 0, HP.out, _, rfl, HV.out.setMedia hm2 _⟩⟩
theorem media_Parse (s : ByteArray) (w : World) : Calls Tryz.prog 71 #[.string s] w (MParsePost s w) := by
  by_cases h : s.size ≤ 1000
  · exact media_Parse_short s w h
  · exact media_Parse_long s w (by omega)
end Go.Proofs.YtibhohpamnpkcaaGreatDoor
