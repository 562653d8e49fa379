/- query.Items. -/
import Derived.Test.YtiaafljbddamhaaDoorQueryReadsM8
import Derived.Test.YtiaafljbddamhaaDoorQueryReadsM4
import Derived.Laws.BitsLemmas
import Derived.Test.YtiaafljbddamhaaDoorQueryReadsM6
import Derived.Test.YtiaafljbddamhaaDoorQueryReadsM3
import Derived.Test.YtiaafljbddamhaaDoorQueryReadsM7

namespace Go.Proofs.YtiaafljbddamhaaDoor
open Go.RowKit

def QItemsPost (s : ByteArray) (w : World) (e : Ending) (w' : World) : Prop := Below w.heap.size w w' ∧
  (((itemsQ s).2.1 = 0 ∧ ∃ v, e = .returned (.tuple #[v, .nilIface]) ∧ OwnI w' w.heap.size v (itemsQ s).1) ∨
   ((itemsQ s).2.1 ≠ 0 ∧ ∃ v n, e = .returned (.tuple #[.slice none 0 0, v]) ∧ FaultIs w' v ((itemsQ s).2.1 : Int) ((itemsQ s).2.2 : Int) n))
theorem parts_sum (c : UInt8) (s : ByteArray) : ((partsB c s).map fun p => p.size + 1).sum = s.size + 1 := by
  have h := splitL_len c _ s.data.toList (Nat.le_refl _)
  have hs : s.data.toList.length = s.size := rfl
  unfold partsB
  rw [List.map_map]
  have : ((splitL c s.data.toList).map ((fun p : ByteArray => p.size + 1) ∘ ofL)) = (splitL c s.data.toList).map fun l => l.length + 1 := by
    apply List.map_congr_left
    intro l _
    show (ofL l).size + 1 = _
    rw [ofL_size]
  rw [this, ← hs, ← h]
  generalize splitL c s.data.toList = ls
  induction ls with
  | nil => rfl
  | cons x ls ih => simp only [List.map_cons, List.sum_cons, List.length_cons, ih]; omega
theorem drop_cons' {α : Type} {ps : List α} {i : Nat} {p : α} (h : ps[i]? = some p) : ps.drop i = p :: ps.drop (i + 1) := by
  obtain ⟨hi, rfl⟩ := List.getElem?_eq_some_iff.1 h
  exact List.drop_eq_getElem_cons hi
theorem sum_step {ps : List ByteArray} {i : Nat} {p : ByteArray} (h : ps[i]? = some p) : ((ps.drop i).map fun p => p.size + 1).sum = p.size + 1 + ((ps.drop (i + 1)).map fun p => p.size + 1).sum := by
  rw [drop_cons' h, List.map_cons, List.sum_cons]
set_option maxHeartbeats 3200000 in
set_option maxRecDepth 100000 in
theorem query_Items (s : ByteArray) (w : World) (hg : Handle w) (hU : Utf8Laid w) (hs : s.size ≤ 1000000) : Calls Tryd.prog 34 #[.string s] w (QItemsPost s w) := by
  have cS := Lib.hid (fun W => strings_Split1 s 38 W (by omega))
  have hsum := parts_sum 38 s
  have hsz := partsB_sizes 38 s
  have hlen := partsB_len 38 s
  have hit : itemsQ s = goG stepQ 256 (partsB 38 s) 0 [] := rfl
  have HIT := Lib.hid hit
  have HSZ := Lib.hid hsz
  clear hsz hit
  have hcells := fun W => parts_cells W (partsB 38 s)
  have HCL := Lib.hid hcells
  clear hcells
  generalize partsB 38 s = ps at *
  go_enter Tryd.func34, Tryd.ntmps34
  go_wp2_with fail
  refine (cS.out _).mono ?_
  rintro e w1 ⟨rfl, hw1⟩
  have hb1 : Below w.heap.size w w1 := by rw [← hw1]; exact (Below.refl _ _).alloc (Nat.le_refl _) _
  have hs1 : w.heap.size < w1.heap.size := by rw [← hw1]; simp
  have hc1 := HCL.out w
  rw [hw1] at hc1
  have HC1 := Lib.hid hc1
  have hg1 := hg.below hb1
  have hU1 := hU.below hb1
  clear hw1 HCL hc1
  go_wp2_with fail
  go_loopw [2, 4, 12] (fun v a x wr => ∃ (i at_ : Nat) (acc : List It), i ≤ ps.length ∧ x = .int .i64 i ∧ a = .int .i64 at_ ∧ OwnI wr w1.heap.size v acc ∧ Below w1.heap.size w1 wr ∧ acc.length ≤ 256 ∧ at_ + ((ps.drop i).map fun p => p.size + 1).sum = s.size + 1 ∧ itemsQ s = goG stepQ 256 (ps.drop i) at_ acc) (fun _ _ x _ => ps.length - (intOf x).toNat)
  case atStart => exact ⟨0, 0, [], Nat.zero_le _, rfl, rfl, OwnI.nil _ _, Below.refl _ _, by simp, by simpa using hsum, HIT.out⟩
  case round =>
    obtain ⟨i, at_, acc, hil, rfl, rfl, hown, hbr, hacc, hat, hgo⟩ := hrel
    have hgr := hg1.below hbr
    have hUr := hU1.below hbr
    by_cases hlt : i < ps.length
    · obtain ⟨p, hp⟩ : ∃ p, ps[i]? = some p := ⟨_, List.getElem?_eq_getElem hlt⟩
      have hcell := (hbr.cell (p := ⟨w.heap.size, i, none⟩) hs1).trans (HC1.out i p hp)
      have hpz := HSZ.out p (List.mem_of_getElem? hp)
      have hst := sum_step hp
      rw [drop_cons' hp] at hgo
      rw [hst] at hat
      have hiI : (i : Int) < (ps.length : Int) := by omega
      clear hst hp
      by_cases h0 : p.size = 0
      · have e0 := isEmpty_yes h0
        rw [goG_none (stepQ_empty h0)] at hgo
        have HGO := Lib.hid hgo
        have hat4 : at_ ≤ 4000000 := by omega
        have HAT := Lib.hid hat
        have HL := Lib.hid hacc
        clear hgo hat hgr hUr hacc
        go_wp2_with fail
        go_roundw
        case rel => exact ⟨i + 1, at_ + p.size + 1, acc, by omega, by go_num, by go_num, hown, hbr, HL.out, by have := HAT.out; omega, HGO.out⟩
        case measure => simp [intOf]; omega
      · have e0 := isEmpty_no (Nat.pos_of_ne_zero h0)
        obtain ⟨va, vc, rfl, hvc, hvm, hsl⟩ := hown.sl
        unfold maxLen at hvm
        by_cases h256 : acc.length = 256
        · rw [goG_bad (by rw [decide_eq_true h256]; exact stepQ_many h0), Nat.add_zero] at hgo
          have HGO := Lib.hid hgo
          have eL : ((acc.length : Int) == 256) = true := by rw [beq_iff_eq]; omega
          have hb2 := hb1.trans (hbr.mono (Nat.le_of_lt hs1))
          clear hgo hat hown
          go_wp2_with fail
          refine (api_Fail' _ _ _).mono ?_
          rintro e w3 ⟨u, rfl, hu, hb3⟩
          go_wp2_with fail
          go_ret2
          exact ⟨Bt hb2 hb3, .inr ⟨by rw [HGO.out]; exact (by decide : (15 : Nat) ≠ 0), u, _, rfl, by rw [HGO.out]; exact hu⟩⟩
        · have eL : ((acc.length : Int) == 256) = false := by rw [beq_eq_false_iff_ne]; omega
          have HL : acc.length < 256 := by omega
          have hstep := stepQ_item h0
          have hd := decide_eq_false h256
          have HOK := Lib.hid (fun x h => hgo.trans (goG_ok (x := x) (ps := ps.drop (i + 1)) (at_ := at_) (acc := acc) (p := p) (g := stepQ) (most := 256) (by rw [hd, hstep]; exact congrArg some h)))
          have HBAD := Lib.hid (fun k j h => hgo.trans (goG_bad (k := k) (i := j) (ps := ps.drop (i + 1)) (at_ := at_) (acc := acc) (p := p) (g := stepQ) (most := 256) (by rw [hd, hstep]; exact congrArg some h)))
          have hat4 : at_ ≤ 4000000 := by omega
          have HAT := Lib.hid hat
          clear hgo hat hstep hd h256 h0
          go_wp2_with fail
          refine (query_item p at_ _ hgr hUr (by omega) hat4).mono ?_
          rintro e w3 ⟨hb3, h⟩
          have hbr3 := Bt hbr hb3
          have hown3 := hown.below hb3
          clear hgr hUr
          rcases h with ⟨x, hx, rfl⟩ | ⟨k, j, n, hx, u, rfl, hu⟩
          · have HGO := Lib.hid (HOK.out x hx)
            obtain ⟨xn, xv, xh⟩ := x
            clear hx HOK HBAD hown hbr hb3
            have hbr4 := (hbr3.alloc hbr3.size (.cells #[.string xn, .string xv, .bool xh] 78))
            have hown4 := hown3.below ((Below.refl w3.heap.size w3).alloc (Nat.le_refl _) (.cells #[.string xn, .string xv, .bool xh] 78))
            have hbr5 := hbr4.alloc hbr4.size (.cells #[.string xn, .string xv, .bool xh] 78)
            have hown5 := hown4.below ((Below.refl (w3.alloc (.cells #[.string xn, .string xv, .bool xh] 78)).heap.size (w3.alloc (.cells #[.string xn, .string xv, .bool xh] 78))).alloc (Nat.le_refl _) (.cells #[.string xn, .string xv, .bool xh] 78))
            have hl3 := (ItemAt.new (w := w3) (n := xn) (v := xv) (b := xh)).load
            have hbs := hbr3.size
            clear hown3 hown4 hbr4
            go_wp2_with (at_builtin; refine wpList_app_item rfl (.tmp 32) (.tmp 34) rfl w1.heap.size _ _ rfl hown5 (w3.heap.size + 1) 1 ⟨xn, xv, xh⟩ rfl (by have := heap_alloc_new (w3.alloc (.cells #[.string xn, .string xv, .bool xh] 78)) (.cells #[.string xn, .string xv, .bool xh] 78); rw [World.size_alloc] at this; exact this) (by omega) (by simp; omega) ?_)
            intro v4 w4 hown6 hg4
            have hbr6 := hown5.under hbr5 (Nat.le_refl _) hg4
            clear hown5 hbr5 hg4
            go_wp2_with fail
            go_roundw
            case rel => exact ⟨i + 1, at_ + p.size + 1, acc ++ [⟨xn, xv, xh⟩], by omega, by go_num, by go_num, hown6, hbr6, by simp; omega, by have := HAT.out; omega, HGO.out⟩
            case measure => simp [intOf]; omega
          · have HGO := Lib.hid (HBAD.out k j hx)
            obtain ⟨q, rfl⟩ := hu.ne_nil
            have hk := itemP_kind hx
            have hb2 := hb1.trans (hbr3.mono (Nat.le_of_lt hs1))
            have HK := Lib.hid hk
            have HX := Lib.hid hu
            have hb4 := hb2.alloc hb2.size (.cells #[.string ⟨#[]⟩, .string ⟨#[]⟩, .bool false] 78)
            have hz := (Below.refl w3.heap.size w3).alloc (Nat.le_refl _) (.cells #[.string ⟨#[]⟩, .string ⟨#[]⟩, .bool false] 78)
            clear hx HOK HBAD hown hbr hb3 hk hu hown3 hb2 hbr3
            go_wp2_with fail
            go_ret2
            exact ⟨hb4, .inr ⟨by rw [HGO.out]; show k ≠ 0; have := HK.out; omega, _, n, rfl, by rw [HGO.out]; exact HX.out.below hz⟩⟩
    · obtain rfl : i = ps.length := by omega
      rw [List.drop_length, goG_nil] at hgo
      have HGO := Lib.hid hgo
      have hb2 := hb1.trans (hbr.mono (Nat.le_of_lt hs1))
      have HO := Lib.hid (hown.base' (base' := w.heap.size) (by omega))
      clear hgo hat hown
      go_wp2_with fail
      go_ret2
      exact ⟨hb2, .inl ⟨by rw [HGO.out], _, rfl, by rw [HGO.out]; exact HO.out⟩⟩
end Go.Proofs.YtiaafljbddamhaaDoor

/- Plain facts: small letters. -/
namespace Go.Proofs.YtiaafljbddamhaaDoor
open Go.RowKit

def lowerB (b : UInt8) : UInt8 := if 65 ≤ b.toNat ∧ b.toNat ≤ 90 then b + 32 else b
theorem lowerB_nat (b : UInt8) : (lowerB b).toNat = smallN b.toNat := by
  have hb := b.toNat_lt
  unfold lowerB smallN
  split
  · rw [UInt8.toNat_add]
    simp
    omega
  · rfl
theorem lowerB_idem (b : UInt8) : lowerB (lowerB b) = lowerB b := by
  have h := lowerB_nat b
  apply UInt8.toNat_inj.1
  rw [lowerB_nat, h]
  unfold smallN
  repeat' split
  all_goals omega
theorem or_letter (n : Nat) (h1 : 65 ≤ n) (h2 : n ≤ 90) : bits .or .u8 (n : Int) 32 = ((n + 32 : Nat) : Int) := by
  have : ∀ n : Fin 91, 65 ≤ n.1 → bits .or .u8 (n.1 : Int) 32 = ((n.1 + 32 : Nat) : Int) := by decide +kernel
  exact this ⟨n, by omega⟩ h1
/-- A text with small letters. -/
def lowerL (l : List UInt8) : List UInt8 := l.map lowerB
def lowerS (s : ByteArray) : ByteArray := ⟨(lowerL s.data.toList).toArray⟩
theorem lowerS_size (s : ByteArray) : (lowerS s).size = s.size := by
  show (lowerL s.data.toList).toArray.size = s.data.toList.length
  simp [lowerL]
theorem lowerS_idem (s : ByteArray) : lowerS (lowerS s) = lowerS s := by
  unfold lowerS lowerL
  apply ByteArray.ext
  apply Array.ext'
  show (s.data.toList.map lowerB).map lowerB = s.data.toList.map lowerB
  rw [List.map_map]
  exact List.map_congr_left fun x _ => lowerB_idem x
/-- So far small letters. -/
def lowTo (s : ByteArray) (i : Nat) : List UInt8 := lowerL (s.data.toList.take i) ++ s.data.toList.drop i
theorem lowTo_len (s : ByteArray) (i : Nat) : (lowTo s i).length = s.size := by
  have hl : s.data.toList.length = s.size := rfl
  simp [lowTo, lowerL]; omega
theorem lowTo_zero (s : ByteArray) : lowTo s 0 = s.data.toList := by simp [lowTo, lowerL]
theorem lowTo_all (s : ByteArray) : lowTo s s.size = (lowerS s).data.toList := by
  have hl : s.data.toList.length = s.size := rfl
  show lowerL (s.data.toList.take s.size) ++ s.data.toList.drop s.size = lowerL s.data.toList
  rw [List.take_of_length_le (by omega), List.drop_eq_nil_of_le (by omega), List.append_nil]
theorem lowTo_at {s : ByteArray} {i : Nat} (hi : i < s.size) : (lowTo s i).getD i 0 = byteAt s i := by
  have hl : s.data.toList.length = s.size := rfl
  have h1 : (lowerL (s.data.toList.take i)).length = i := by simp [lowerL]; omega
  unfold lowTo byteAt
  simp only [List.getD, List.getElem?_append, h1, Nat.lt_irrefl, if_false, Nat.sub_self, List.getElem?_drop, Nat.add_zero]
theorem lowTo_set {s : ByteArray} {i : Nat} (hi : i < s.size) : (lowTo s i).set i (lowerB (byteAt s i)) = lowTo s (i + 1) := by
  have hl : s.data.toList.length = s.size := rfl
  have hlt : i < s.data.toList.length := by omega
  have h1 : (lowerL (s.data.toList.take i)).length = i := by simp [lowerL]; omega
  have hb : byteAt s i = s.data.toList[i] := by unfold byteAt; rw [List.getD, List.getElem?_eq_getElem hlt]; rfl
  unfold lowTo
  rw [List.set_append_right _ _ (by rw [h1]; exact Nat.le_refl _), h1, Nat.sub_self, List.drop_eq_getElem_cons hlt, List.set_cons_zero, List.take_succ_eq_append_getElem hlt, hb]
  simp [lowerL]
theorem lowTo_keep {s : ByteArray} {i : Nat} (hi : i < s.size) (h : lowerB (byteAt s i) = byteAt s i) : lowTo s (i + 1) = lowTo s i := by
  rw [← lowTo_set hi, h]
  have h2 := lowTo_at hi
  have hll : i < (lowTo s i).length := by rw [lowTo_len]; exact hi
  apply List.ext_getElem?
  intro j
  rw [List.getElem?_set]
  split
  · rename_i e
    subst e
    rw [← h2, List.getD, List.getElem?_eq_getElem hll]; rfl
  · rfl
end Go.Proofs.YtiaafljbddamhaaDoor

/- The reference's bad, Right, Plain, escape, Decode, Normal of chapter 03. -/
namespace Go.Proofs.YtiaafljbddamhaaDoor
open Go.RowKit

theorem escOk_is {s : ByteArray} {i : Nat} (h : i + 3 ≤ s.size) : escOk s i = decide ((escRes s i).2.1 = 0) := by unfold escOk; rw [decide_eq_true h, Bool.true_and]
theorem escOk_short {s : ByteArray} {i : Nat} (h : ¬ i + 3 ≤ s.size) : escOk s i = false := by unfold escOk; rw [decide_eq_false h, Bool.false_and]
def RBadPost (s : ByteArray) (w : World) (e : Ending) (w' : World) : Prop := (∃ q, w.drewN q = w') ∧ (((told s).2 = none ∧ e = .returned (.int .i64 (-1))) ∨ (∃ i : Nat, (told s).2 = some i ∧ e = .returned (.int .i64 (i : Int))))

set_option maxHeartbeats 1600000 in
set_option maxRecDepth 100000 in
theorem ref_bad (s : ByteArray) (w : World) (hs : s.size ≤ 16777216) : Calls Tryd.prog 138 #[.string s] w (RBadPost s w) := by
  go_enter Tryd.func138, Tryd.ntmps138
  go_wp2_with fail
  go_loopw [3] (fun x wr => ∃ (i : Nat) (l : List (UInt8 × Bool)) (q : Nat), i ≤ s.size ∧ x = .int .i64 i ∧ Told s l i ∧ w.drewN q = wr) (fun x _ => s.size - (intOf x).toNat)
  case atStart => exact ⟨0, [], 0, Nat.zero_le _, rfl, Told.zero s, rfl⟩
  case round =>
    obtain ⟨i, l, q, hil, rfl, ht, rfl⟩ := hrel
    have HT := Lib.hid ht
    clear ht
    by_cases hlt : i < s.size
    · have hbk := byteAt_idx' hlt
      have hplain := fun h => HT.out.plain hlt h
      have hesc := fun h k => HT.out.esc hlt h k
      have hbad := fun h k => HT.out.bad hlt h k
      rw [← hbk] at hplain hesc hbad
      have HP := Lib.hid hplain
      have HE := Lib.hid hesc
      have HBD := Lib.hid hbad
      clear hplain hesc hbad hbk
      by_cases h37 : s[i].toNat = 37
      · have e1 : ((s[i].toNat : Int) != 37) = false := by rw [h37]; rfl
        have H37 := Lib.hid h37
        clear h37
        by_cases h3 : i + 3 ≤ s.size
        · have hok := escOk_is h3
          have hsz := ext_size s (i + 1) (i + 3) (by omega) h3
          have hC := fun W => ref_Number (s.extract (i + 1) (i + 3)) 16 255 W (by omega) (by omega) (by omega) (by omega)
          unfold RefNum at hC
          have hdef : numRes (s.extract (i + 1) (i + 3)) 16 255 = escRes s i := rfl
          rw [hdef] at hC
          generalize escRes s i = r at *
          obtain ⟨n, k, j⟩ := r
          simp only at hC hok
          have HC := Lib.hid hC
          have HOK := Lib.hid hok
          have hi3 : (i : Int) + 3 ≤ (s.size : Int) := by omega
          clear hC hok hdef hsz
          go_wp2_with fail
          refine (HC.out _).mono ?_
          rintro e w1 ⟨rfl, q2, rfl⟩
          by_cases hk : k = 0
          · subst hk
            have ht2 := HE.out H37.out (HOK.out.trans rfl)
            have HT2 := Lib.hid ht2
            clear ht2
            go_wp2_with fail
            go_roundw
            case rel => exact ⟨i + 3, _, _, by omega, by go_num, HT2.out, rfl⟩
            case measure => simp [intOf]; omega
          · have e2 : ((k : Int) != 0) = true := by rw [bne_iff_ne]; omega
            have hb2 := HBD.out H37.out (HOK.out.trans (decide_eq_false hk))
            have HB2 := Lib.hid hb2
            clear hb2 hk
            go_wp2_with fail
            go_ret
            exact ⟨⟨_, rfl⟩, .inr ⟨i, by rw [HB2.out], rfl⟩⟩
        · have hb2 := HBD.out H37.out (escOk_short h3)
          have HB2 := Lib.hid hb2
          have hi3 : (s.size : Int) < (i : Int) + 3 := by omega
          clear hb2 h3
          go_wp2_with fail
          go_ret
          exact ⟨⟨_, rfl⟩, .inr ⟨i, by rw [HB2.out], rfl⟩⟩
      · have e1 : ((s[i].toNat : Int) != 37) = true := by rw [bne_iff_ne]; omega
        have ht2 := HP.out h37
        have HT2 := Lib.hid ht2
        clear h37 ht2
        go_wp2_with fail
        go_roundw
        case rel => exact ⟨i + 1, _, _, by omega, by go_num, HT2.out, rfl⟩
        case measure => simp [intOf]; omega
    · have hd := HT.out.done hlt
      obtain rfl : i = s.size := by omega
      have HD := Lib.hid hd
      clear hd
      go_wp2_with fail
      go_ret
      exact ⟨⟨_, rfl⟩, .inl ⟨by rw [HD.out], rfl⟩⟩

theorem ref_Right03 (s : ByteArray) (w : World) (hs : s.size ≤ 16777216) : Calls Tryd.prog 99 #[.string s] w (RBadPost s w) := by
  go_enter Tryd.func99, Tryd.ntmps99
  go_wp2_with fail
  refine (ref_bad s _ hs).mono ?_
  rintro e w1 ⟨⟨q, rfl⟩, h⟩
  rcases h with ⟨hn, rfl⟩ | ⟨i, hi, rfl⟩
  · have HN := Lib.hid hn
    clear hn
    go_wp2_with fail
    go_ret
    exact ⟨⟨_, rfl⟩, .inl ⟨HN.out, rfl⟩⟩
  · have HN := Lib.hid hi
    clear hi
    go_wp2_with fail
    go_ret
    exact ⟨⟨_, rfl⟩, .inr ⟨i, HN.out, rfl⟩⟩

theorem wrap_u8' (n : Nat) (h : n ≤ 255) : IntKind.u8.wrap (n : Int) = (n : Int) := by unfold IntKind.wrap; simp [IntKind.signed, IntKind.bits]; omega

set_option maxHeartbeats 3200000 in
set_option maxRecDepth 100000 in
theorem ref_Decode (s : ByteArray) (w : World) (hs : s.size ≤ 16777216) (hr : (told s).2 = none) : Calls Tryd.prog 100 #[.string s] w fun e w' => ∃ v, e = .returned v ∧ OwnB w' w.heap.size v (bytesT s) ∧ Below w.heap.size w w' := by
  have HR := Lib.hid hr
  clear hr
  go_enter Tryd.func100, Tryd.ntmps100
  go_wp2_with fail
  go_loopw [3, 4] (fun v x wr => ∃ (i : Nat) (l : List (UInt8 × Bool)), i ≤ s.size ∧ x = .int .i64 i ∧ Told s l i ∧ OwnB wr w.heap.size v (l.map (·.1)) ∧ Below w.heap.size w wr) (fun _ x _ => s.size - (intOf x).toNat)
  case atStart => exact ⟨0, [], Nat.zero_le _, rfl, Told.zero s, OwnB.lit w [] #[] 0 rfl rfl (Nat.le_refl _) (by simp), (Below.refl _ _).alloc (Nat.le_refl _) _⟩
  case round =>
    obtain ⟨i, l, hil, rfl, ht, hown, hbr⟩ := hrel
    have HT := Lib.hid ht
    have hll := ht.len
    have hlm : (l.map (·.1)).length ≤ 16777216 := by rw [List.length_map]; omega
    clear ht
    by_cases hlt : i < s.size
    · have hbk := byteAt_idx' hlt
      have hplain := fun h => HT.out.plain hlt h
      have hesc := fun h k => HT.out.esc hlt h k
      have hbad := fun h k => HT.out.bad hlt h k
      rw [← hbk] at hplain hesc hbad
      have HP := Lib.hid hplain
      have HE := Lib.hid hesc
      have HBD := Lib.hid hbad
      clear hplain hesc hbad hbk
      by_cases h37 : s[i].toNat = 37
      · have e1 : ((s[i].toNat : Int) == 37) = true := by rw [h37]; rfl
        have hok : escOk s i = true := by
          cases hx : escOk s i with
          | true => rfl
          | false => have h1 := HBD.out h37 hx; have h2 := HR.out; rw [h1] at h2; cases h2
        have h3 := escOk_le hok
        have ht2 := HE.out h37 hok
        have hcn := escC_nat hok
        have hkz : (escRes s i).2.1 = 0 := by rw [escOk_is h3] at hok; exact of_decide_eq_true hok
        have hnm := numRes_most (s.extract (i + 1) (i + 3)) 16 255 hkz
        have hsz := ext_size s (i + 1) (i + 3) (by omega) h3
        have hC := fun W => ref_Number (s.extract (i + 1) (i + 3)) 16 255 W (by omega) (by omega) (by omega) (by omega)
        unfold RefNum at hC
        have hdef : numRes (s.extract (i + 1) (i + 3)) 16 255 = escRes s i := rfl
        rw [hdef] at hC hnm
        rw [← hcn] at hC
        generalize escRes s i = r at *
        obtain ⟨n, k, j⟩ := r
        simp only at hC hkz
        subst hkz
        generalize escC s i = c at *
        have HC := Lib.hid hC
        have HT2 := Lib.hid ht2
        have hi3 : (i : Int) + 3 ≤ (s.size : Int) := by omega
        have hw8 := wrap_u8' c.toNat (by have := c.toNat_lt; omega)
        have hmap : l.map (·.1) ++ [c] = (l ++ [(c, true)]).map (·.1) := by simp
        have HMAP := Lib.hid hmap
        clear hC hdef hsz hcn hnm hok ht2 h37 hmap
        go_wp2_with fail
        refine (HC.out _).mono ?_
        rintro e w1 ⟨rfl, q2, rfl⟩
        generalize hdw : wr.drewN q2 = w2 at *
        have hbq : Below wr.heap.size wr w2 := by rw [← hdw]; exact below_drewN (Below.refl _ _) q2
        have hown2 := (hown.below hbq).below ((Below.refl w2.heap.size w2).alloc (Nat.le_refl _) (.cells #[.int .u8 (c.toNat : Int)] 5))
        have hbr2 := (Bt hbr hbq).alloc (Bt hbr hbq).size (.cells #[.int .u8 (c.toNat : Int)] 5)
        have hy : BytesSl (w2.alloc (.cells #[.int .u8 (c.toNat : Int)] 5)) (.slice (some ⟨w2.heap.size, 0, none⟩) 1 1) ⟨#[c]⟩ := BytesSl.lit w2 [c] _ 1 rfl rfl (by simp)
        clear hown hbr hbq hdw
        go_wp2_with (at_builtin; refine wpList_app_bytes rfl _ _ rfl w.heap.size _ _ rfl hown2 _ ⟨#[c]⟩ rfl hy (by show _ + 1 ≤ _; omega) hbr2.size ?_)
        intro v3 w3 hown3 hgr
        have hb3 := hown2.under hbr2 (Nat.le_refl _) hgr
        have hown4 : OwnB w3 w.heap.size v3 ((l ++ [(c, true)]).map (·.1)) := by rw [← HMAP.out]; exact hown3
        clear hown3 hown2 hgr hbr2 hy
        go_wp2_with fail
        go_roundw
        case rel => exact ⟨i + 3, _, by omega, by go_num, HT2.out, hown4, hb3⟩
        case measure => simp [intOf]; omega
      · have e1 : ((s[i].toNat : Int) == 37) = false := by rw [beq_eq_false_iff_ne]; omega
        have ht2 := HP.out h37
        have HT2 := Lib.hid ht2
        have hmap : l.map (·.1) ++ [s[i]] = (l ++ [(s[i], false)]).map (·.1) := by simp
        have HMAP := Lib.hid hmap
        have hown2 := hown.below ((Below.refl wr.heap.size wr).alloc (Nat.le_refl _) (.cells #[.int .u8 (s[i].toNat : Int)] 5))
        have hbr2 := hbr.alloc hbr.size (.cells #[.int .u8 (s[i].toNat : Int)] 5)
        have hy : BytesSl (wr.alloc (.cells #[.int .u8 (s[i].toNat : Int)] 5)) (.slice (some ⟨wr.heap.size, 0, none⟩) 1 1) ⟨#[s[i]]⟩ := BytesSl.lit wr [s[i]] _ 1 rfl rfl (by simp)
        clear h37 ht2 hmap hown hbr
        go_wp2_with (at_builtin; refine wpList_app_bytes rfl _ _ rfl w.heap.size _ _ rfl hown2 _ ⟨#[s[i]]⟩ rfl hy (by show _ + 1 ≤ _; omega) hbr2.size ?_)
        intro v3 w3 hown3 hgr
        have hb3 := hown2.under hbr2 (Nat.le_refl _) hgr
        have hown4 : OwnB w3 w.heap.size v3 ((l ++ [(s[i], false)]).map (·.1)) := by rw [← HMAP.out]; exact hown3
        clear hown3 hown2 hgr hbr2 hy
        go_wp2_with fail
        go_roundw
        case rel => exact ⟨i + 1, _, by omega, by go_num, HT2.out, hown4, hb3⟩
        case measure => simp [intOf]; omega
    · have hd := HT.out.done hlt
      obtain rfl : i = s.size := by omega
      have hfin : bytesT s = l.map (·.1) := by unfold bytesT; rw [hd]
      have HD := Lib.hid hfin
      clear hd hfin
      go_wp2_with fail
      go_ret
      exact ⟨_, rfl, by rw [HD.out]; exact hown, hbr⟩

end Go.Proofs.YtiaafljbddamhaaDoor

/- Plain facts: the reference's way to a character (its bytes are made, and held against what stands there) is Go's decoder's. -/
namespace Go.Proofs.YtiaafljbddamhaaDoor

/-- A character's bytes. -/
def putN (n : Nat) : List Nat :=
  if n < 128 then [n] else if n < 2048 then [192 + n / 64, 128 + n % 64] else if n < 65536 then [224 + n / 4096, 128 + n / 64 % 64, 128 + n % 64]
  else [240 + n / 262144, 128 + n / 4096 % 64, 128 + n / 64 % 64, 128 + n % 64]
/-- The number that so many bytes would tell. -/
def guessZ (k b0 b1 b2 b3 : Int) : Int :=
  if k = 1 then b0 else if k = 2 then 64 * (b0 - 192) + b1 - 128 else if k = 3 then 64 * (64 * (b0 - 224) + b1 - 128) + b2 - 128 else 64 * (64 * (64 * (b0 - 240) + b1 - 128) + b2 - 128) + b3 - 128
def rightZ (n : Int) : Prop := 0 ≤ n ∧ n < 1114112 ∧ ¬ (55296 ≤ n ∧ n < 57344)
def firstN (k b0 b1 b2 b3 : Nat) : List Nat := [b0, b1, b2, b3].take k

theorem guess1 (b0 b1 b2 b3 : Int) : guessZ 1 b0 b1 b2 b3 = b0 := by simp [guessZ]
theorem guess2 (b0 b1 b2 b3 : Int) : guessZ 2 b0 b1 b2 b3 = 64 * (b0 - 192) + b1 - 128 := by simp [guessZ]
theorem guess3 (b0 b1 b2 b3 : Int) : guessZ 3 b0 b1 b2 b3 = 64 * (64 * (b0 - 224) + b1 - 128) + b2 - 128 := by simp [guessZ]
theorem guess4 (b0 b1 b2 b3 : Int) : guessZ 4 b0 b1 b2 b3 = 64 * (64 * (64 * (b0 - 240) + b1 - 128) + b2 - 128) + b3 - 128 := by simp [guessZ]

theorem hit_dec {n k b0 b1 b2 b3 : Nat} (hk1 : 1 ≤ k) (hk4 : k ≤ 4) (hkn : k ≤ n) (h0 : b0 < 256) (h1 : b1 < 256) (h2 : b2 < 256) (_ : b3 < 256) (hr : rightZ (guessZ k b0 b1 b2 b3))
    (hp : putN (guessZ k b0 b1 b2 b3).toNat = firstN k b0 b1 b2 b3) : Lib.decodeN n b0 b1 b2 b3 = ((guessZ k b0 b1 b2 b3).toNat, k) ∧ ((guessZ k b0 b1 b2 b3).toNat, k) ≠ (65533, 1) := by
  unfold rightZ at hr
  obtain ⟨N, hN⟩ := Int.eq_ofNat_of_zero_le hr.1
  rw [hN] at hr hp ⊢
  rw [Int.toNat_natCast] at hp ⊢
  have hc : k = 1 ∨ k = 2 ∨ k = 3 ∨ k = 4 := by omega
  rcases hc with rfl | rfl | rfl | rfl
  · rw [show ((1 : Nat) : Int) = 1 from rfl, guess1] at hN
    unfold putN firstN at hp
    repeat' split at hp
    all_goals simp at hp
    refine ⟨?_, by simp; omega⟩
    unfold Lib.decodeN
    rw [if_pos (by omega)]
    simp; omega
  · rw [show ((2 : Nat) : Int) = 2 from rfl, guess2] at hN
    unfold putN firstN at hp
    repeat' split at hp
    all_goals simp at hp
    refine ⟨?_, by simp⟩
    unfold Lib.decodeN
    rw [if_neg (by omega), if_pos (by omega), if_pos (by omega)]
    simp; omega
  · rw [show ((3 : Nat) : Int) = 3 from rfl, guess3] at hN
    unfold putN firstN at hp
    repeat' split at hp
    all_goals simp at hp
    refine ⟨?_, by simp⟩
    unfold Lib.decodeN
    rw [if_neg (by omega), if_neg (by omega), if_pos (by omega), if_pos (by omega)]
    simp; omega
  · rw [show ((4 : Nat) : Int) = 4 from rfl, guess4] at hN
    unfold putN firstN at hp
    repeat' split at hp
    all_goals simp at hp
    refine ⟨?_, by simp⟩
    unfold Lib.decodeN
    rw [if_neg (by omega), if_neg (by omega), if_neg (by omega), if_pos (by omega), if_pos (by omega)]
    simp; omega

theorem dec_hit {n b0 b1 b2 b3 : Nat} (hn : 0 < n) (h0 : b0 < 256) (h1 : b1 < 256) (h2 : b2 < 256) (_ : b3 < 256) (ho : Lib.decodeN n b0 b1 b2 b3 ≠ (65533, 1)) :
    ∃ k, 1 ≤ k ∧ k ≤ 4 ∧ k ≤ n ∧ rightZ (guessZ k b0 b1 b2 b3) ∧ putN (guessZ k b0 b1 b2 b3).toNat = firstN k b0 b1 b2 b3 := by
  unfold Lib.decodeN at ho
  repeat' split at ho
  all_goals first | exact absurd rfl ho | skip
  · refine ⟨1, by omega, by omega, by omega, ?_, ?_⟩
    all_goals rw [show ((1 : Nat) : Int) = 1 from rfl, guess1]
    · unfold rightZ; omega
    · rw [Int.toNat_natCast]; unfold putN firstN
      rw [if_pos (by omega)]; rfl
  · refine ⟨2, by omega, by omega, by omega, ?_, ?_⟩
    all_goals rw [show ((2 : Nat) : Int) = 2 from rfl, guess2]
    · unfold rightZ; omega
    · unfold putN firstN
      rw [if_neg (by omega), if_pos (by omega)]
      simp; omega
  · refine ⟨3, by omega, by omega, by omega, ?_, ?_⟩
    all_goals rw [show ((3 : Nat) : Int) = 3 from rfl, guess3]
    · unfold rightZ; omega
    · unfold putN firstN
      rw [if_neg (by omega), if_neg (by omega), if_pos (by omega)]
      simp; omega
  · refine ⟨4, by omega, by omega, by omega, ?_, ?_⟩
    all_goals rw [show ((4 : Nat) : Int) = 4 from rfl, guess4]
    · unfold rightZ; omega
    · unfold putN firstN
      rw [if_neg (by omega), if_neg (by omega), if_neg (by omega)]
      simp; omega
end Go.Proofs.YtiaafljbddamhaaDoor
