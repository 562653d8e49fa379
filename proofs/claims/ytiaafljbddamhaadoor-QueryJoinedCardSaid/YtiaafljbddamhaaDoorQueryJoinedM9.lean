/- query.Items. -/
import Derived.Test.YtiaafljbddamhaaDoorQueryJoinedM8
import Derived.Test.YtiaafljbddamhaaDoorQueryJoinedM7
import Derived.Laws.StructEq
import Derived.Deep.QuietTactic
import Derived.BigQuiet
import Derived.Test.YtiaafljbddamhaaDoorQueryJoinedM3
import Derived.Deep.AppendSrc
import Derived.Test.YtiaafljbddamhaaDoorQueryJoinedM1

namespace Go.Proofs.YtiaafljbddamhaaDoor
open Go.RowKit

def QItemsPost (s : ByteArray) (w : World) (e : Ending) (w' : World) : Prop := Below w.heap.size w w' ∧
  (((itemsQ s).2.1 = 0 ∧ ∃ v, e = .returned (.tuple #[v, .nilIface]) ∧ OwnI w' w.heap.size v (itemsQ s).1) ∨
   ((itemsQ s).2.1 ≠ 0 ∧ ∃ v n, e = .returned (.tuple #[.slice none 0 0, v]) ∧ FaultIs w' v ((itemsQ s).2.1 : Int) ((itemsQ s).2.2 : Int) n))
theorem parts_sum (c : UInt8) (s : ByteArray) : ((partsB c s).map fun p => p.size + 1).sum = s.size + 1 := by
  have h := splitL_len c _ s.data.toList (Nat.le_refl _)
  have hs : s.data.toList.length = s.size := rfl
  unfold partsB
  rw [List.map_map]
  have : ((splitL c s.data.toList).map ((fun p : ByteArray => p.size + 1) ∘ ofL)) = (splitL c s.data.toList).map fun l => l.length + 1 := by
    apply List.map_congr_left
    intro l _
    show (ofL l).size + 1 = _
    rw [ofL_size]
  rw [this, ← hs, ← h]
  generalize splitL c s.data.toList = ls
  induction ls with
  | nil => rfl
  | cons x ls ih => simp only [List.map_cons, List.sum_cons, List.length_cons, ih]; omega
theorem drop_cons' {α : Type} {ps : List α} {i : Nat} {p : α} (h : ps[i]? = some p) : ps.drop i = p :: ps.drop (i + 1) := by
  obtain ⟨hi, rfl⟩ := List.getElem?_eq_some_iff.1 h
  exact List.drop_eq_getElem_cons hi
theorem sum_step {ps : List ByteArray} {i : Nat} {p : ByteArray} (h : ps[i]? = some p) : ((ps.drop i).map fun p => p.size + 1).sum = p.size + 1 + ((ps.drop (i + 1)).map fun p => p.size + 1).sum := by
  rw [drop_cons' h, List.map_cons, List.sum_cons]
set_option maxHeartbeats 3200000 in
set_option maxRecDepth 100000 in
theorem query_Items (s : ByteArray) (w : World) (hg : Handle w) (hU : Utf8Laid w) (hs : s.size ≤ 1000000) : Calls Tryd.prog 34 #[.string s] w (QItemsPost s w) := by
  have cS := Lib.hid (fun W => strings_Split1 s 38 W (by omega))
  have hsum := parts_sum 38 s
  have hsz := partsB_sizes 38 s
  have hlen := partsB_len 38 s
  have hit : itemsQ s = goG stepQ 256 (partsB 38 s) 0 [] := rfl
  have HIT := Lib.hid hit
  have HSZ := Lib.hid hsz
  clear hsz hit
  have hcells := fun W => parts_cells W (partsB 38 s)
  have HCL := Lib.hid hcells
  clear hcells
  generalize partsB 38 s = ps at *
  go_enter Tryd.func34, Tryd.ntmps34
  go_wp2_with fail
  refine (cS.out _).mono ?_
  rintro e w1 ⟨rfl, hw1⟩
  have hb1 : Below w.heap.size w w1 := by rw [← hw1]; exact (Below.refl _ _).alloc (Nat.le_refl _) _
  have hs1 : w.heap.size < w1.heap.size := by rw [← hw1]; simp
  have hc1 := HCL.out w
  rw [hw1] at hc1
  have HC1 := Lib.hid hc1
  have hg1 := hg.below hb1
  have hU1 := hU.below hb1
  clear hw1 HCL hc1
  go_wp2_with fail
  go_loopw [2, 4, 12] (fun v a x wr => ∃ (i at_ : Nat) (acc : List It), i ≤ ps.length ∧ x = .int .i64 i ∧ a = .int .i64 at_ ∧ OwnI wr w1.heap.size v acc ∧ Below w1.heap.size w1 wr ∧ acc.length ≤ 256 ∧ at_ + ((ps.drop i).map fun p => p.size + 1).sum = s.size + 1 ∧ itemsQ s = goG stepQ 256 (ps.drop i) at_ acc) (fun _ _ x _ => ps.length - (intOf x).toNat)
  case atStart => exact ⟨0, 0, [], Nat.zero_le _, rfl, rfl, OwnI.nil _ _, Below.refl _ _, by simp, by simpa using hsum, HIT.out⟩
  case round =>
    obtain ⟨i, at_, acc, hil, rfl, rfl, hown, hbr, hacc, hat, hgo⟩ := hrel
    have hgr := hg1.below hbr
    have hUr := hU1.below hbr
    by_cases hlt : i < ps.length
    · obtain ⟨p, hp⟩ : ∃ p, ps[i]? = some p := ⟨_, List.getElem?_eq_getElem hlt⟩
      have hcell := (hbr.cell (p := ⟨w.heap.size, i, none⟩) hs1).trans (HC1.out i p hp)
      have hpz := HSZ.out p (List.mem_of_getElem? hp)
      have hst := sum_step hp
      rw [drop_cons' hp] at hgo
      rw [hst] at hat
      have hiI : (i : Int) < (ps.length : Int) := by omega
      clear hst hp
      by_cases h0 : p.size = 0
      · have e0 := isEmpty_yes h0
        rw [goG_none (stepQ_empty h0)] at hgo
        have HGO := Lib.hid hgo
        have hat4 : at_ ≤ 4000000 := by omega
        have HAT := Lib.hid hat
        have HL := Lib.hid hacc
        clear hgo hat hgr hUr hacc
        go_wp2_with fail
        go_roundw
        case rel => exact ⟨i + 1, at_ + p.size + 1, acc, by omega, by go_num, by go_num, hown, hbr, HL.out, by have := HAT.out; omega, HGO.out⟩
        case measure => simp [intOf]; omega
      · have e0 := isEmpty_no (Nat.pos_of_ne_zero h0)
        obtain ⟨va, vc, rfl, hvc, hvm, hsl⟩ := hown.sl
        unfold maxLen at hvm
        by_cases h256 : acc.length = 256
        · rw [goG_bad (by rw [decide_eq_true h256]; exact stepQ_many h0), Nat.add_zero] at hgo
          have HGO := Lib.hid hgo
          have eL : ((acc.length : Int) == 256) = true := by rw [beq_iff_eq]; omega
          have hb2 := hb1.trans (hbr.mono (Nat.le_of_lt hs1))
          clear hgo hat hown
          go_wp2_with fail
          refine (api_Fail' _ _ _).mono ?_
          rintro e w3 ⟨u, rfl, hu, hb3⟩
          go_wp2_with fail
          go_ret2
          exact ⟨Bt hb2 hb3, .inr ⟨by rw [HGO.out]; exact (by decide : (15 : Nat) ≠ 0), u, _, rfl, by rw [HGO.out]; exact hu⟩⟩
        · have eL : ((acc.length : Int) == 256) = false := by rw [beq_eq_false_iff_ne]; omega
          have HL : acc.length < 256 := by omega
          have hstep := stepQ_item h0
          have hd := decide_eq_false h256
          have HOK := Lib.hid (fun x h => hgo.trans (goG_ok (x := x) (ps := ps.drop (i + 1)) (at_ := at_) (acc := acc) (p := p) (g := stepQ) (most := 256) (by rw [hd, hstep]; exact congrArg some h)))
          have HBAD := Lib.hid (fun k j h => hgo.trans (goG_bad (k := k) (i := j) (ps := ps.drop (i + 1)) (at_ := at_) (acc := acc) (p := p) (g := stepQ) (most := 256) (by rw [hd, hstep]; exact congrArg some h)))
          have hat4 : at_ ≤ 4000000 := by omega
          have HAT := Lib.hid hat
          clear hgo hat hstep hd h256 h0
          go_wp2_with fail
          refine (query_item p at_ _ hgr hUr (by omega) hat4).mono ?_
          rintro e w3 ⟨hb3, h⟩
          have hbr3 := Bt hbr hb3
          have hown3 := hown.below hb3
          clear hgr hUr
          rcases h with ⟨x, hx, rfl⟩ | ⟨k, j, n, hx, u, rfl, hu⟩
          · have HGO := Lib.hid (HOK.out x hx)
            obtain ⟨xn, xv, xh⟩ := x
            clear hx HOK HBAD hown hbr hb3
            have hbr4 := (hbr3.alloc hbr3.size (.cells #[.string xn, .string xv, .bool xh] 78))
            have hown4 := hown3.below ((Below.refl w3.heap.size w3).alloc (Nat.le_refl _) (.cells #[.string xn, .string xv, .bool xh] 78))
            have hbr5 := hbr4.alloc hbr4.size (.cells #[.string xn, .string xv, .bool xh] 78)
            have hown5 := hown4.below ((Below.refl (w3.alloc (.cells #[.string xn, .string xv, .bool xh] 78)).heap.size (w3.alloc (.cells #[.string xn, .string xv, .bool xh] 78))).alloc (Nat.le_refl _) (.cells #[.string xn, .string xv, .bool xh] 78))
            have hl3 := (ItemAt.new (w := w3) (n := xn) (v := xv) (b := xh)).load
            have hbs := hbr3.size
            clear hown3 hown4 hbr4
            go_wp2_with (at_builtin; refine wpList_app_item rfl (.tmp 32) (.tmp 34) rfl w1.heap.size _ _ rfl hown5 (w3.heap.size + 1) 1 ⟨xn, xv, xh⟩ rfl (by have := heap_alloc_new (w3.alloc (.cells #[.string xn, .string xv, .bool xh] 78)) (.cells #[.string xn, .string xv, .bool xh] 78); rw [World.size_alloc] at this; exact this) (by omega) (by simp; omega) ?_)
            intro v4 w4 hown6 hg4
            have hbr6 := hown5.under hbr5 (Nat.le_refl _) hg4
            clear hown5 hbr5 hg4
            go_wp2_with fail
            go_roundw
            case rel => exact ⟨i + 1, at_ + p.size + 1, acc ++ [⟨xn, xv, xh⟩], by omega, by go_num, by go_num, hown6, hbr6, by simp; omega, by have := HAT.out; omega, HGO.out⟩
            case measure => simp [intOf]; omega
          · have HGO := Lib.hid (HBAD.out k j hx)
            obtain ⟨q, rfl⟩ := hu.ne_nil
            have hk := itemP_kind hx
            have hb2 := hb1.trans (hbr3.mono (Nat.le_of_lt hs1))
            have HK := Lib.hid hk
            have HX := Lib.hid hu
            have hb4 := hb2.alloc hb2.size (.cells #[.string ⟨#[]⟩, .string ⟨#[]⟩, .bool false] 78)
            have hz := (Below.refl w3.heap.size w3).alloc (Nat.le_refl _) (.cells #[.string ⟨#[]⟩, .string ⟨#[]⟩, .bool false] 78)
            clear hx HOK HBAD hown hbr hb3 hk hu hown3 hb2 hbr3
            go_wp2_with fail
            go_ret2
            exact ⟨hb4, .inr ⟨by rw [HGO.out]; show k ≠ 0; have := HK.out; omega, _, n, rfl, by rw [HGO.out]; exact HX.out.below hz⟩⟩
    · obtain rfl : i = ps.length := by omega
      rw [List.drop_length, goG_nil] at hgo
      have HGO := Lib.hid hgo
      have hb2 := hb1.trans (hbr.mono (Nat.le_of_lt hs1))
      have HO := Lib.hid (hown.base' (base' := w.heap.size) (by omega))
      clear hgo hat hown
      go_wp2_with fail
      go_ret2
      exact ⟨hb2, .inl ⟨by rw [HGO.out], _, rfl, by rw [HGO.out]; exact HO.out⟩⟩
end Go.Proofs.YtiaafljbddamhaaDoor

/- Items, compared; two rows of items. -/
namespace Go.Proofs.YtiaafljbddamhaaDoor
open Go.RowKit

def itemV (x : It) : Value := .agg #[.string x.name, .string x.value, .bool x.has]
theorem toList_eqB (a b : ByteArray) : (a.toList = b.toList) = (a = b) := by
  have h := str_eqB a b
  rw [Bool.eq_iff_iff] at h
  simpa using h
theorem neq_item (n v : ByteArray) (b : Bool) (n' v' : ByteArray) (b' : Bool) (w : World) : (binOp .neq 78 (.agg #[.string n, .string v, .bool b]) (.agg #[.string n', .string v', .bool b'])).run Tryd.prog w = .ok (.bool (!decide ((⟨n, v, b⟩ : It) = ⟨n', v', b'⟩))) w := by
  have u9 := Tryd.underlying9
  have u4 := Tryd.underlying4
  have z9 := Tryd.sizeOf9
  have z4 := Tryd.sizeOf4
  have a9 := Tryd.isAgg9
  have a4 := Tryd.isAgg4
  have hS : Tryd.prog.underlying 78 = some (.struct (Tryd.prog.fieldsOf 78)) := by kernel_rfl
  have hp : Tryd.prog.stoodInHeld 78 = false := by kernel_rfl
  rw [run_neq_struct, show (10000 : Nat) = 9999 + 1 from rfl, run_equalIn_agg w 9999 78 _ _ hS hp]
  simp only [Program.fieldsOf, Tryd.underlying78]
  go_simp
  simp only [toList_eqB]
  by_cases h1 : n = n'
  · by_cases h2 : v = v'
    · by_cases h3 : b = b'
      · simp [h1, h2, h3]
      · simp [h1, h2, h3]
    · simp [h1, h2]
  · simp [h1]

set_option maxHeartbeats 1600000 in
set_option maxRecDepth 100000 in
theorem ref16_Same (a1 : Option Addr) (c1 : Nat) (a2 : Option Addr) (c2 : Nat) (l1 l2 : List It) (w : World) (h1 : ItemsOwn w a1 l1) (h2 : ItemsOwn w a2 l2) (hn1 : l1.length ≤ 16777216) (hn2 : l2.length ≤ 16777216) :
    Calls Tryd.prog 36 #[.slice a1 l1.length c1, .slice a2 l2.length c2] w fun e w' => e = .returned (.bool (decide (l1 = l2))) ∧ ∃ m, w.drewN m = w' := by
  by_cases hn : l1.length = l2.length
  · go_enter Tryd.func36, Tryd.ntmps36
    have hnI : ((l1.length : Int) != (l2.length : Int)) = false := by simp; omega
    have h12 : l1.length ≤ l2.length := by omega
    have HN := Lib.hid hn
    clear hn
    go_wp2_with fail
    go_loopw [5] (fun i wr => ∃ k m : Nat, k ≤ l1.length ∧ i = .int .i64 k ∧ w.drewN m = wr ∧ l1.take k = l2.take k) (fun i _ => l1.length - (intOf i).toNat)
    case atStart => exact ⟨0, 0, Nat.zero_le _, rfl, rfl, rfl⟩
    case round =>
      obtain ⟨k, m, hk, rfl, rfl, hall⟩ := hrel
      have HA := Lib.hid hall
      clear hall
      by_cases hlt : k < l1.length
      · obtain ⟨x, hx⟩ : ∃ x, l1[k]? = some x := ⟨_, List.getElem?_eq_getElem hlt⟩
        obtain ⟨y, hy⟩ : ∃ y, l2[k]? = some y := ⟨_, List.getElem?_eq_getElem (by omega)⟩
        obtain ⟨b1, rfl, hb1, d0, d1, d2⟩ := h1 k x hx
        obtain ⟨b2, rfl, hb2, e0, e1, e2⟩ := h2 k y hy
        have i1 : (k : Int) < (l1.length : Int) := by omega
        have i2 : (k : Int) < (l2.length : Int) := by omega
        have hcm := fun W => neq_item x.name x.value x.has y.name y.value y.has W
        have hstep : x = y → l1.take (k + 1) = l2.take (k + 1) := by
          intro e
          rw [List.take_add_one, List.take_add_one, HA.out, hx, hy, e]
        have hne : x ≠ y → l1 ≠ l2 := by
          intro e e'
          rw [e', hy] at hx
          exact e (Option.some.inj hx).symm
        have HS := Lib.hid hstep
        have HNE := Lib.hid hne
        clear hstep hne hx hy h1 h2
        obtain ⟨xn, xv, xh⟩ := x
        obtain ⟨yn, yv, yh⟩ := y
        by_cases hxy : (⟨xn, xv, xh⟩ : It) = ⟨yn, yv, yh⟩
        · simp only [decide_eq_true hxy, Bool.not_true] at hcm
          have HX := Lib.hid (HS.out hxy)
          clear hxy HS HNE
          go_wp2_with fail
          go_quiet (fail)
          go_wp2_with fail
          go_roundw
          case rel => exact ⟨k + 1, _, by omega, by go_num, rfl, HX.out⟩
          case measure => simp [intOf]; omega
        · simp only [decide_eq_false hxy, Bool.not_false] at hcm
          have HX := Lib.hid (HNE.out hxy)
          clear hxy HS HNE
          go_wp2_with fail
          go_quiet (fail)
          go_wp2_with fail
          go_ret
          exact ⟨ret_bool (decide_eq_false HX.out).symm, _, (World.drewN_drewN _ _ _).symm⟩
      · obtain rfl : k = l1.length := by omega
        have heq : l1 = l2 := by
          have := HA.out
          rw [List.take_length, HN.out, List.take_length] at this
          exact this
        have HE := Lib.hid heq
        clear heq h1 h2
        go_wp2_with fail
        go_ret
        exact ⟨ret_bool (decide_eq_true HE.out).symm, _, rfl⟩
  · have e1 : ((l1.length : Int) != (l2.length : Int)) = true := by simp; omega
    have hne : l1 ≠ l2 := fun h => hn (by rw [h])
    have HNE := Lib.hid hne
    clear hne hn
    go_enter Tryd.func36, Tryd.ntmps36
    go_wp2_with fail
    go_ret
    exact ⟨ret_bool (decide_eq_false HNE.out).symm, 0, rfl⟩
end Go.Proofs.YtiaafljbddamhaaDoor

/- The example of chapter 16's statements. -/
namespace Go.Proofs.YtiaafljbddamhaaDoor
open Go.RowKit

theorem itemsQ_len (s : ByteArray) : (itemsQ s).1.length ≤ 256 := goG_len stepQ_right _ _ _ (Nat.zero_le _)
theorem itemsQ_empty {s : ByteArray} (h : (itemsQ s).2.1 ≠ 0) : (itemsQ s).1 = [] := goG_empty _ _ _ h
theorem itemsQ_zero {s : ByteArray} (h : (itemsQ s).2.1 = 0) : (itemsQ s).2.2 = 0 := goG_zero stepQ_right _ _ _ h
theorem ItemsOwn.nil (w : World) (a : Option Addr) : ItemsOwn w a [] := fun i p h => by simp at h
/-- Items, and an error, as query.Items gives them. -/
def QItems (s : ByteArray) (w : World) (e : Ending) (w' : World) : Prop := Below w.heap.size w w' ∧ ∃ a c v, e = .returned (.tuple #[.slice a (itemsQ s).1.length c, v]) ∧ (itemsQ s).1.length ≤ c ∧ c ≤ maxLen ∧ ItemsOwn w' a (itemsQ s).1 ∧ IsErr w' v (itemsQ s).2.1 (itemsQ s).2.2
theorem query_Items' (s : ByteArray) (w : World) (hg : Handle w) (hU : Utf8Laid w) (hs : s.size ≤ 1000000) : Calls Tryd.prog 34 #[.string s] w (QItems s w) :=
  (query_Items s w hg hU hs).mono fun e w' ⟨hb, h⟩ => by
    refine ⟨hb, ?_⟩
    rcases h with ⟨hk, v, rfl, hown⟩ | ⟨hk, v, n, rfl, hv⟩
    · obtain ⟨a, c, rfl, h1, h2, h3⟩ := hown.sl
      exact ⟨a, c, _, rfl, h1, h2, h3, .inl ⟨hk, rfl⟩⟩
    · have hn := itemsQ_empty hk
      refine ⟨none, 0, v, ?_, ?_, ?_, ?_, .inr ⟨hk, n, hv⟩⟩
      · rw [hn]; rfl
      · rw [hn]; exact Nat.le_refl _
      · unfold maxLen; omega
      · rw [hn]; exact ItemsOwn.nil _ _
theorem ItemsOwn.lit (w : World) (l : List It) (cs : Array Value) (h : cs = (itemsV l).toArray) : ItemsOwn (w.alloc (.cells cs 78)) (some ⟨w.heap.size, 0, none⟩) l := by
  subst h
  intro i p hp
  have hc : ∀ j, j < 3 → (w.alloc (.cells (itemsV l).toArray 78)).cell? ⟨w.heap.size, i * 3 + j, none⟩ = (itemC p)[j]? := fun j hj => by
    rw [World.cell?_alloc_at _ _ _ _ rfl]
    simpa using itemsV_at hp j hj
  exact ⟨w.heap.size, rfl, by simp, hc 0 (by omega), hc 1 (by omega), hc 2 (by omega)⟩
theorem sp16 : itemsQ ⟨#[97, 61, 49, 38, 38, 98, 38, 37, 54, 51, 61, 37, 54, 52]⟩ = ([⟨⟨#[97]⟩, ⟨#[49]⟩, true⟩, ⟨⟨#[98]⟩, ⟨#[]⟩, false⟩, ⟨⟨#[99]⟩, ⟨#[100]⟩, true⟩], 0, 0) := by decide +kernel
set_option maxHeartbeats 1600000 in
set_option maxRecDepth 100000 in
theorem speaks16 (w : World) (hg : Handle w) (hU : Utf8Laid w) : Calls Tryd.prog 33 #[] w fun e w' => e = .returned (.bool true) ∧ Below w.heap.size w w' := by
  have cI' : ∀ W, Handle W → Utf8Laid W → Calls Tryd.prog 34 #[.string ⟨#[97, 61, 49, 38, 38, 98, 38, 37, 54, 51, 61, 37, 54, 52]⟩] W fun e w' => Below W.heap.size W w' ∧ ∃ a c, e = .returned (.tuple #[.slice a 3 c, .nilIface]) ∧ c ≤ maxLen ∧ ItemsOwn w' a [⟨⟨#[97]⟩, ⟨#[49]⟩, true⟩, ⟨⟨#[98]⟩, ⟨#[]⟩, false⟩, ⟨⟨#[99]⟩, ⟨#[100]⟩, true⟩] := fun W h1 h2 =>
    (query_Items' ⟨#[97, 61, 49, 38, 38, 98, 38, 37, 54, 51, 61, 37, 54, 52]⟩ W h1 h2 (by decide)).mono fun e w' ⟨hb, a, c, v, he, h3, h4, h5, h6⟩ => by
      rw [sp16] at he h5 h6
      rcases h6 with ⟨_, rfl⟩ | ⟨h, _⟩
      · exact ⟨hb, a, c, he, h4, h5⟩
      · exact absurd rfl h
  have cI := Lib.hid cI'
  clear cI'
  go_enter Tryd.func33, Tryd.ntmps33
  go_wp2_with fail
  refine (cI.out _ hg hU).mono ?_
  rintro e w2 ⟨hb2, a, c, rfl, hcm, hsl⟩
  have hb3 := hb2.alloc hb2.size (.cells #[.string ⟨#[97]⟩, .string ⟨#[49]⟩, .bool true, .string ⟨#[98]⟩, .string ⟨#[]⟩, .bool false, .string ⟨#[99]⟩, .string ⟨#[100]⟩, .bool true] 78)
  have hsl3 := hsl.below ((Below.refl w2.heap.size w2).alloc (Nat.le_refl _) (.cells #[.string ⟨#[97]⟩, .string ⟨#[49]⟩, .bool true, .string ⟨#[98]⟩, .string ⟨#[]⟩, .bool false, .string ⟨#[99]⟩, .string ⟨#[100]⟩, .bool true] 78))
  have hlit := ItemsOwn.lit w2 [⟨⟨#[97]⟩, ⟨#[49]⟩, true⟩, ⟨⟨#[98]⟩, ⟨#[]⟩, false⟩, ⟨⟨#[99]⟩, ⟨#[100]⟩, true⟩] #[.string ⟨#[97]⟩, .string ⟨#[49]⟩, .bool true, .string ⟨#[98]⟩, .string ⟨#[]⟩, .bool false, .string ⟨#[99]⟩, .string ⟨#[100]⟩, .bool true] rfl
  have cS := Lib.hid (ref16_Same a c _ 3 _ _ _ hsl3 hlit (by decide) (by decide))
  clear hsl hsl3 hlit
  go_wp2_with fail
  refine cS.out.mono ?_
  rintro e w4 ⟨rfl, q, rfl⟩
  go_wp2_with fail
  go_ret
  exact ⟨rfl, below_drewN hb3 q⟩
end Go.Proofs.YtiaafljbddamhaaDoor

/- append(x, y...) of items. -/
namespace Go.Proofs.YtiaafljbddamhaaDoor
open Go.RowKit

theorem ItemsSl.cellsAt {w : World} {a : Option Addr} {l : List It} (h : ItemsSl w a l) (hne : l ≠ []) : ∃ b off, a = some ⟨b, off, none⟩ ∧ b < w.heap.size ∧ ∀ j u, (itemsV l)[j]? = some u → w.cell? ((⟨b, off, none⟩ : Addr).add j) = some u := by
  obtain ⟨x, l', rfl⟩ := List.exists_cons_of_ne_nil hne
  obtain ⟨b, off, rfl, hb, _⟩ := h 0 x rfl
  refine ⟨b, off, rfl, hb, fun j u hj => ?_⟩
  have hlt := (List.getElem?_eq_some_iff.1 hj).1
  rw [itemsV_len] at hlt
  obtain ⟨p, hp⟩ : ∃ p, (x :: l')[j / 3]? = some p := ⟨_, List.getElem?_eq_getElem (by omega)⟩
  obtain ⟨b', off', e, _, h0, h1, h2⟩ := h (j / 3) p hp
  cases e
  have hm := itemsV_at hp (j % 3) (by omega)
  rw [show j / 3 * 3 + j % 3 = j by omega, hj] at hm
  rw [Addr.add_lit]
  have h3 : j % 3 = 0 ∨ j % 3 = 1 ∨ j % 3 = 2 := by omega
  rcases h3 with e | e | e
  · rw [e] at hm; rw [show off + j = off + j / 3 * 3 by omega, h0]; exact hm.symm
  · rw [e] at hm; rw [show off + j = off + j / 3 * 3 + 1 by omega, h1]; exact hm.symm
  · rw [e] at hm; rw [show off + j = off + j / 3 * 3 + 2 by omega, h2]; exact hm.symm
theorem itemsV_one (l : List It) : ∀ u ∈ itemsV l, u.oneCell' = true := by
  intro u hu
  unfold itemsV at hu
  obtain ⟨p, _, hp⟩ := List.mem_flatMap.1 hu
  exact itemC_one p u hp
theorem OwnI.shape {w : World} {base : Nat} {v : Value} {l : List It} (h : OwnI w base v l) : (l = [] ∧ v = .slice none 0 0) ∨ ∃ g cap, v = .slice (some ⟨g, 0, none⟩) l.length cap ∧ l.length ≤ cap := by
  unfold OwnI at h
  rcases h.2 with ⟨e0, e1⟩ | ⟨g, cap, cur, e0, hg, hh, h1, h2, _⟩
  · exact .inl ⟨List.eq_nil_of_length_eq_zero e1, e0⟩
  · exact .inr ⟨g, cap, e0, h1⟩
theorem wpList_app_items {w : World} {ops : Array Oper} {rest : List Oper} {o : Oper} {a : Act} {Q : Exit → Act → World → Prop} (hgd : o.guard = none) (s x : Operand) (ho : o.op = .call { callee := .builtin .append, args := #[s, x], argTypes := #[23, 23] })
    (base : Nat) (v : Value) (l : List It) (hs : a.eval s = v) (hown : OwnI w base v l) (pa : Option Addr) (c : Nat) (ys : List It) (hx : a.eval x = .slice pa ys.length c) (hy : ItemsSl w pa ys)
    (hl : l.length + ys.length ≤ 1073741824) (hbase : base ≤ w.heap.size)
    (h : ∀ v' w', OwnI w' base v' (l ++ ys) → w.grownBy w' v.ownBlock → wpList Tryd.prog ops Q rest (a.put o.dst v') w') : wpList Tryd.prog ops Q (o :: rest) a w := by
  obtain ⟨i, hi, hz, hsize, hby⟩ := info_parts info_item
  by_cases hne : ys = []
  · subst hne
    have hsrc : Src Tryd.prog i.size 23 (.slice pa 0 c) 0 [] w := by
      cases pa with
      | none => exact Src.ofNil w Tryd.underlying23 c
      | some ad => exact Src.ofSlice w Tryd.underlying23 ad 0 c [] (by simp) (by simp) (by simp)
    refine wpList_plain hgd fun K hK => ?_
    have hrun : (Builtin.append_ #[23, 23] o.type #[v, .slice pa 0 c]).run Tryd.prog w = .ok v w := by
      rcases hown.shape with ⟨_, rfl⟩ | ⟨g, c, rfl, h1⟩
      · exact run_append_nothing w _ _ _ 78 i Tryd.underlying23 hi none 0 0 (Nat.le_refl _) _ hsrc
      · exact run_append_nothing w _ _ _ 78 i Tryd.underlying23 hi _ _ _ h1 _ hsrc
    have hx0 : a.eval x = .slice pa 0 c := hx
    unfold Oper.wp
    simp [execOp, ho, resolve, invoke, builtin, hs, hx0, hrun, Result.andThen]
    refine hK _ _ (h v w (by rw [List.append_nil]; exact hown) (below_grownBy (Below.refl _ _) _))
  · obtain ⟨b, off, rfl, hb, hcells⟩ := hy.cellsAt hne
    refine wpList_append_own _ hgd s x 23 ho base 78 i _ 3 40 Tryd.underlying23 hi hz hsize hby rfl (by decide) v _ _ hs hown _ ys.length c (itemsV ys) hx (itemsV_len ys) hcells (itemsV_one ys) (by unfold maxLen; omega) (by omega) hbase ?_
    intro v' w' h1 h2 _
    refine h v' w' ?_ h2
    unfold OwnI
    rw [List.length_append, itemsV_app]
    exact h1
end Go.Proofs.YtiaafljbddamhaaDoor

/- An operation whose guard says yes is as one without a guard. -/
namespace Go.Proofs.YtiaafljbddamhaaDoor
open Go.RowKit

theorem wpList_free {P : Program} {ops : Array Oper} {Q : Exit → Act → World → Prop} {a : Act} {w : World} {rest : List Oper} {d : Option Tmp} {op : Op} {ty : TypeId} {pos : String} {after : Array Edge} {g : Option (Nat × Bool)}
    (hw : Region.wanted ⟨d, op, ty, pos, after, g⟩ (yielded ops a.tmps) = true) (h : wpList P ops Q (⟨d, op, ty, pos, after, none⟩ :: rest) a w) : wpList P ops Q (⟨d, op, ty, pos, after, g⟩ :: rest) a w := by
  unfold wpList at h ⊢
  rw [if_pos hw]
  rw [if_pos (by simp [Region.wanted])] at h
  exact h
end Go.Proofs.YtiaafljbddamhaaDoor
