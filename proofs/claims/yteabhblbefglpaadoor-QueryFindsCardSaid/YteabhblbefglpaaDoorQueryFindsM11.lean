/- query.Values, query.Names, and the reference's. -/
import Derived.Test.YteabhblbefglpaaDoorQueryFindsM2
import Derived.Test.YteabhblbefglpaaDoorQueryFindsM10
import Derived.Test.YteabhblbefglpaaDoorQueryFindsM1
import Derived.StillTailTactics
import Derived.BigQuiet

namespace Go.Proofs.YteabhblbefglpaaDoor
open Go.RowKit

/-- A row of strings that a call gives. -/
def StrsPost (l : List ByteArray) (w : World) (e : Ending) (w' : World) : Prop := Below w.heap.size w w' ∧ ∃ a c, e = .returned (.slice a l.length c) ∧ RowSl w' a (l.map strV)
theorem OwnS.post {w w' : World} {base : Nat} {v : Value} {l : List ByteArray} (h : OwnS w' base v l) (hb : Below w.heap.size w w') : StrsPost l w (.returned v) w' := by
  obtain ⟨a, c, rfl, _, _, hs⟩ := h.sl
  exact ⟨hb, a, c, rfl, hs⟩
set_option maxHeartbeats 3200000 in
set_option maxRecDepth 100000 in
theorem query_Values (pa : Option Addr) (pc : Nat) (l : List It) (n : ByteArray) (w : World) (hsl : ItemsSl w pa l) (hl : l.length ≤ 16777216) :
    Calls Tryd.prog 40 #[.slice pa l.length pc, .string n] w (StrsPost (valuesB l n) w) := by
  have HSL := Lib.hid hsl
  have hlen : ∀ i, (valuesB (l.take i) n).length ≤ i := fun i => Nat.le_trans (values_len _ _) (by rw [List.length_take]; omega)
  have HLEN := Lib.hid hlen
  clear hsl hlen
  go_enter Tryd.func40, Tryd.ntmps40
  go_wp2_with fail
  go_loopw [4, 9] (fun v x wr => ∃ i : Nat, i ≤ l.length ∧ x = .int .i64 i ∧ OwnS wr w.heap.size v (valuesB (l.take i) n) ∧ Below w.heap.size w wr) (fun _ x _ => l.length - (intOf x).toNat)
  case atStart => exact ⟨0, Nat.zero_le _, rfl, OwnS.nil _ _, Below.refl _ _⟩
  case round =>
    obtain ⟨i, hil, rfl, hown, hbr⟩ := hrel
    by_cases hlt : i < l.length
    · obtain ⟨p, hx⟩ : ∃ p, l[i]? = some p := ⟨_, List.getElem?_eq_getElem hlt⟩
      obtain ⟨b, off, rfl, hb, d0, d1, d2⟩ := (HSL.out.below hbr) i p hx
      have HV := Lib.hid (values_snoc n hx)
      have hvl := HLEN.out i
      obtain ⟨pn, pv, ph⟩ := p
      dsimp only at HV
      have hiI : (i : Int) < (l.length : Int) := by omega
      have hstA : Below wr.heap.size wr (wr.alloc (.cells #[.string pn, .string pv, .bool ph] 94)) := (Below.refl _ _).alloc (Nat.le_refl _) _
      have hbA := Bt hbr hstA
      have hownA := hown.below hstA
      clear hx
      generalize valuesB (l.take i) n = acc at *
      by_cases hn : pn = n
      · have en := str_eqT hn
        rw [if_pos hn] at HV
        have hstB : Below (wr.alloc (.cells #[.string pn, .string pv, .bool ph] 94)).heap.size (wr.alloc (.cells #[.string pn, .string pv, .bool ph] 94)) ((wr.alloc (.cells #[.string pn, .string pv, .bool ph] 94)).alloc (.cells #[.string pv] 9)) := (Below.refl _ _).alloc (Nat.le_refl _) _
        have hownB := hownA.below hstB
        have hbB := Bt hbA hstB
        have hblk : ((wr.alloc (.cells #[.string pn, .string pv, .bool ph] 94)).alloc (.cells #[.string pv] 9)).heap[wr.heap.size + 1]? = some (.cells #[.string pv] 9 (0, 0)) := by
          have := heap_alloc_new (wr.alloc (.cells #[.string pn, .string pv, .bool ph] 94)) (.cells #[.string pv] 9)
          rw [World.size_alloc] at this
          exact this
        have hsz := hbB.size
        clear hn hown hstA hownA hstB hbA hbr
        go_wp2_with (at_builtin; refine wpList_app_str rfl _ _ rfl w.heap.size _ _ rfl hownB (wr.heap.size + 1) 1 pv rfl hblk (by omega) hsz ?_)
        intro v' w' hown' hg'
        have hb' := hownB.under hbB (Nat.le_refl _) hg'
        clear hg' hownB hbB hblk hsz
        go_wp2_with fail
        go_roundw
        case rel => exact ⟨i + 1, by omega, by go_num, by rw [HV.out]; exact hown', hb'⟩
        case measure => simp [intOf]; omega
      · have en := str_eqF hn
        rw [if_neg hn] at HV
        clear hn hown hstA hbr
        go_wp2_with fail
        go_roundw
        case rel => exact ⟨i + 1, by omega, by go_num, by rw [HV.out]; exact hownA, hbA⟩
        case measure => simp [intOf]; omega
    · obtain rfl : i = l.length := by omega
      rw [List.take_length] at hown
      have HP := Lib.hid (hown.post hbr)
      clear hown
      go_wp2_with fail
      go_ret
      exact HP.out

set_option maxHeartbeats 3200000 in
set_option maxRecDepth 100000 in
theorem ref16_Values (pa : Option Addr) (pc : Nat) (l : List It) (n : ByteArray) (w : World) (hsl : ItemsSl w pa l) (hl : l.length ≤ 16777216) :
    Calls Tryd.prog 41 #[.slice pa l.length pc, .string n] w (StrsPost (valuesB l n) w) := by
  have HSL := Lib.hid hsl
  have hlen : ∀ i, (valuesB (l.take i) n).length ≤ i := fun i => Nat.le_trans (values_len _ _) (by rw [List.length_take]; omega)
  have HLEN := Lib.hid hlen
  clear hsl hlen
  go_enter Tryd.func41, Tryd.ntmps41
  go_wp2_with fail
  go_loopw [5, 6] (fun v x wr => ∃ i : Nat, i ≤ l.length ∧ x = .int .i64 i ∧ OwnS wr w.heap.size v (valuesB (l.take i) n) ∧ Below w.heap.size w wr) (fun _ x _ => l.length - (intOf x).toNat)
  case atStart => exact ⟨0, Nat.zero_le _, rfl, OwnS.lit0 _ _ (Nat.le_refl _), (Below.refl _ _).alloc (Nat.le_refl _) _⟩
  case round =>
    obtain ⟨i, hil, rfl, hown, hbr⟩ := hrel
    by_cases hlt : i < l.length
    · obtain ⟨p, hx⟩ : ∃ p, l[i]? = some p := ⟨_, List.getElem?_eq_getElem hlt⟩
      obtain ⟨b, off, rfl, hb, d0, d1, d2⟩ := (HSL.out.below hbr) i p hx
      have HV := Lib.hid (values_snoc n hx)
      have hvl := HLEN.out i
      obtain ⟨pn, pv, ph⟩ := p
      dsimp only at HV d0 d1 d2
      have hiI : (i : Int) < (l.length : Int) := by omega
      clear hx
      generalize valuesB (l.take i) n = acc at *
      by_cases hn : pn = n
      · have en := str_eqT hn
        rw [if_pos hn] at HV
        have hstB : Below wr.heap.size wr (wr.alloc (.cells #[.string pv] 9)) := (Below.refl _ _).alloc (Nat.le_refl _) _
        have hownB := hown.below hstB
        have hbB := Bt hbr hstB
        have hblk := heap_alloc_new wr (.cells #[.string pv] 9)
        have hsz := hbB.size
        clear hn hown hstB hbr
        go_wp2_with (at_builtin; refine wpList_app_str rfl _ _ rfl w.heap.size _ _ rfl hownB wr.heap.size 1 pv rfl hblk (by omega) hsz ?_)
        intro v' w' hown' hg'
        have hb' := hownB.under hbB (Nat.le_refl _) hg'
        clear hg' hownB hbB hblk hsz
        go_wp2_with fail
        go_roundw
        case rel => exact ⟨i + 1, by omega, by go_num, by rw [HV.out]; exact hown', hb'⟩
        case measure => simp [intOf]; omega
      · have en := str_eqF hn
        rw [if_neg hn] at HV
        clear hn
        go_wp2_with fail
        go_roundw
        case rel => exact ⟨i + 1, by omega, by go_num, by rw [HV.out]; exact hown, hbr⟩
        case measure => simp [intOf]; omega
    · obtain rfl : i = l.length := by omega
      rw [List.take_length] at hown
      have HP := Lib.hid (hown.post hbr)
      clear hown
      go_wp2_with fail
      go_ret
      exact HP.out

set_option maxHeartbeats 3200000 in
set_option maxRecDepth 100000 in
theorem query_Names (pa : Option Addr) (pc : Nat) (l : List It) (w : World) (hsl : ItemsSl w pa l) (hl : l.length ≤ 16777216) :
    Calls Tryd.prog 42 #[.slice pa l.length pc] w (StrsPost (namesK l l.length) w) := by
  have HSL := Lib.hid hsl
  have HLEN := Lib.hid (names_len l)
  clear hsl
  go_enter Tryd.func42, Tryd.ntmps42
  go_wp2_with fail
  go_loopw [2, 7] (fun v x wr => ∃ i : Nat, i ≤ l.length ∧ x = .int .i64 i ∧ OwnS wr w.heap.size v (namesK l i) ∧ Below w.heap.size w wr) (fun _ x _ => l.length - (intOf x).toNat)
  case atStart => exact ⟨0, Nat.zero_le _, rfl, OwnS.nil _ _, Below.refl _ _⟩
  case round =>
    obtain ⟨i, hil, rfl, hown, hbr⟩ := hrel
    by_cases hlt : i < l.length
    · obtain ⟨p, hx⟩ : ∃ p, l[i]? = some p := ⟨_, List.getElem?_eq_getElem hlt⟩
      obtain ⟨b, off, rfl, hb, d0, d1, d2⟩ := (HSL.out.below hbr) i p hx
      have hvl := HLEN.out i
      have hm := names_mem l p.name i hil
      have ho := names_old hx
      have hw := names_new hx
      obtain ⟨pn, pv, ph⟩ := p
      dsimp only at hm ho hw d0 d1 d2
      have hiI : (i : Int) < (l.length : Int) := by omega
      have hstA : Below wr.heap.size wr (wr.alloc (.cells #[.string pn, .string pv, .bool ph] 94)) := (Below.refl _ _).alloc (Nat.le_refl _) _
      have hbA := Bt hbr hstA
      have hownA := hown.below hstA
      obtain ⟨a, c, rfl, hc1, hc2, hrs⟩ := hownA.sl
      have cC := Lib.hid (strs_Contains a c (namesK l i) pn _ hrs (by omega))
      by_cases hn : pn ∈ namesK l i
      · rw [show (namesK l i).any (fun y => decide (y = pn)) = true by rw [List.any_eq_true]; exact ⟨pn, hn, by simp⟩] at cC
        have HV := Lib.hid (ho (hm.1 hn))
        clear hn hm ho hw hx
        generalize namesK l i = acc at *
        clear hown hstA hbr hrs
        go_wp2_with fail
        refine cC.out.mono ?_
        rintro e w2 ⟨rfl, rfl⟩
        go_wp2_with fail
        go_roundw
        case rel => exact ⟨i + 1, by omega, by go_num, by rw [HV.out]; exact hownA, hbA⟩
        case measure => simp [intOf]; omega
      · rw [show (namesK l i).any (fun y => decide (y = pn)) = false by rw [List.any_eq_false]; intro y hy h; simp at h; exact hn (h ▸ hy)] at cC
        have HV := Lib.hid (hw (by rw [Bool.eq_false_iff]; exact fun h => hn (hm.2 h)))
        clear hn hm ho hw hx
        generalize namesK l i = acc at *
        have hstB : Below (wr.alloc (.cells #[.string pn, .string pv, .bool ph] 94)).heap.size (wr.alloc (.cells #[.string pn, .string pv, .bool ph] 94)) ((wr.alloc (.cells #[.string pn, .string pv, .bool ph] 94)).alloc (.cells #[.string pn] 9)) := (Below.refl _ _).alloc (Nat.le_refl _) _
        have hownB := hownA.below hstB
        have hbB := Bt hbA hstB
        have hblk : ((wr.alloc (.cells #[.string pn, .string pv, .bool ph] 94)).alloc (.cells #[.string pn] 9)).heap[wr.heap.size + 1]? = some (.cells #[.string pn] 9 (0, 0)) := by
          have := heap_alloc_new (wr.alloc (.cells #[.string pn, .string pv, .bool ph] 94)) (.cells #[.string pn] 9)
          rw [World.size_alloc] at this
          exact this
        have hsz := hbB.size
        clear hown hstA hownA hstB hbA hbr hrs
        go_wp2_with fail
        refine cC.out.mono ?_
        rintro e w2 ⟨rfl, rfl⟩
        go_wp2_with (at_builtin; refine wpList_app_str rfl _ _ rfl w.heap.size _ _ rfl hownB (wr.heap.size + 1) 1 pn rfl hblk (by omega) hsz ?_)
        intro v' w' hown' hg'
        have hb' := hownB.under hbB (Nat.le_refl _) hg'
        clear hg' hownB hbB hblk hsz
        go_wp2_with fail
        go_roundw
        case rel => exact ⟨i + 1, by omega, by go_num, by rw [HV.out]; exact hown', hb'⟩
        case measure => simp [intOf]; omega
    · obtain rfl : i = l.length := by omega
      have HP := Lib.hid (hown.post hbr)
      clear hown
      go_wp2_with fail
      go_ret
      exact HP.out

set_option maxHeartbeats 3200000 in
set_option maxRecDepth 100000 in
theorem ref16_Names (pa : Option Addr) (pc : Nat) (l : List It) (w : World) (hsl : ItemsSl w pa l) (hl : l.length ≤ 16777216) :
    Calls Tryd.prog 43 #[.slice pa l.length pc] w (StrsPost (namesK l l.length) w) := by
  have HSL := Lib.hid hsl
  have HLEN := Lib.hid (names_len l)
  clear hsl
  go_enter Tryd.func43, Tryd.ntmps43
  go_wp2_with fail
  go_loopw [3, 4] (fun v x wr => ∃ i : Nat, i ≤ l.length ∧ x = .int .i64 i ∧ OwnS wr w.heap.size v (namesK l i) ∧ Below w.heap.size w wr) (fun _ x _ => l.length - (intOf x).toNat)
  case atStart => exact ⟨0, Nat.zero_le _, rfl, OwnS.lit0 _ _ (Nat.le_refl _), (Below.refl _ _).alloc (Nat.le_refl _) _⟩
  case round =>
    obtain ⟨i, hil, rfl, hown, hbr⟩ := hrel
    by_cases hlt : i < l.length
    · obtain ⟨p, hx⟩ : ∃ p, l[i]? = some p := ⟨_, List.getElem?_eq_getElem hlt⟩
      obtain ⟨b, off, rfl, hb, d0, d1, d2⟩ := (HSL.out.below hbr) i p hx
      have hvl := HLEN.out i
      have HO := Lib.hid (names_old hx)
      have HW := Lib.hid (names_new hx)
      obtain ⟨pn, pv, ph⟩ := p
      dsimp only at HO HW d0 d1 d2
      have hiI : (i : Int) < (l.length : Int) := by omega
      have HBR := Lib.hid hbr
      have HOWN := Lib.hid hown
      clear hx hbr hown
      go_wp2_with fail
      generalize hwz : wr = wz at *
      clear hwz
      go_loopw [5, 6] (fun t x wi => ∃ k m : Nat, k ≤ i ∧ x = .int .i64 k ∧ t = .bool ((l.take k).any fun y => decide (y.name = pn)) ∧ wz.drewN m = wi) (fun _ x _ => i - (intOf x).toNat)
      case atStart => exact ⟨0, 0, Nat.zero_le _, rfl, rfl, rfl⟩
      case round =>
        obtain ⟨k, m, hki, rfl, rfl, rfl⟩ := hrel
        by_cases hlk : k < i
        · obtain ⟨y, hy⟩ : ∃ y, l[k]? = some y := ⟨_, List.getElem?_eq_getElem (by omega)⟩
          obtain ⟨b', off', e', _, c0, _, _⟩ := (HSL.out.below HBR.out) k y hy
          cases e'
          have HA := Lib.hid (any_snoc (fun y => decide (y.name = pn)) hy)
          obtain ⟨yn, yv, yh⟩ := y
          dsimp only at HA c0
          have hkI : (k : Int) < (i : Int) := by omega
          have hkL : (k : Int) < (l.length : Int) := by omega
          clear hy
          generalize (l.take k).any (fun y => decide (y.name = pn)) = t at *
          cases t
          · by_cases hn : yn = pn
            · have en := str_eqT hn
              rw [decide_eq_true hn] at HA
              clear hn
              go_wp2_with fail
              go_quiet (fail)
              go_wp2_with fail
              go_roundw
              case rel => exact ⟨k + 1, _, by omega, by go_num, by rw [HA.out]; rfl, rfl⟩
              case measure => simp [intOf]; omega
            · have en := str_eqF hn
              rw [decide_eq_false hn] at HA
              clear hn
              go_wp2_with fail
              go_quiet (fail)
              go_wp2_with fail
              go_roundw
              case rel => exact ⟨k + 1, _, by omega, by go_num, by rw [HA.out]; rfl, rfl⟩
              case measure => simp [intOf]; omega
          · go_wp2_with fail
            go_quiet (fail)
            go_wp2_with fail
            go_roundw
            case rel => exact ⟨k + 1, _, by omega, by go_num, by rw [HA.out]; rfl, rfl⟩
            case measure => simp [intOf]; omega
        · obtain rfl : k = i := by omega
          have hbr : Below w.heap.size w (wz.drewN m) := below_drewN HBR.out m
          have hown := HOWN.out.drewN m
          have d0' : (wz.drewN m).cell? ⟨b, off + k * 3, none⟩ = some (.string pn) := d0
          generalize wz.drewN m = wy at *
          clear HBR HOWN
          generalize (l.take k).any (fun y => decide (y.name = pn)) = t at *
          cases t
          · have HV := Lib.hid (HW.out rfl)
            generalize namesK l k = acc at *
            have hstB : Below wy.heap.size wy (wy.alloc (.cells #[.string pn] 9)) := (Below.refl _ _).alloc (Nat.le_refl _) _
            have hownB := hown.below hstB
            have hbB := Bt hbr hstB
            have hblk := heap_alloc_new wy (.cells #[.string pn] 9)
            have hsz := hbB.size
            clear hown hstB hbr d0
            go_wp2_with (at_builtin; refine wpList_app_str rfl _ _ rfl w.heap.size _ _ rfl hownB wy.heap.size 1 pn rfl hblk (by omega) hsz ?_)
            intro v' w' hown' hg'
            have hb' := hownB.under hbB (Nat.le_refl _) hg'
            clear hg' hownB hbB hblk hsz
            go_wp2_with fail
            go_roundw
            case rel => exact ⟨k + 1, by omega, by go_num, by rw [HV.out]; exact hown', hb'⟩
            case measure => simp [intOf]; omega
          · have HV := Lib.hid (HO.out rfl)
            go_wp2_with fail
            go_roundw
            case rel => exact ⟨k + 1, by omega, by go_num, by rw [HV.out]; exact hown, hbr⟩
            case measure => simp [intOf]; omega
    · obtain rfl : i = l.length := by omega
      have HP := Lib.hid (hown.post hbr)
      clear hown
      go_wp2_with fail
      go_ret
      exact HP.out
end Go.Proofs.YteabhblbefglpaaDoor

/- A region that draws its order, whose operations but for a tail only read: its head, walked by the quiet walk's cheap steps, in the one world. -/
namespace Go.Proofs.YteabhblbefglpaaDoor
open Go.RowKit

theorem still_of_quiet {P : Program} {ops : Array Oper} {w : World} {o : Oper} {a : Act} {K : Act → Prop} (h : o.quiet P a (fun x => x = w) K) : o.still P a w K := by
  obtain ⟨v, h1, h2⟩ := h
  have h3 := h1 w rfl
  unfold Oper.quietAt at h3
  unfold Oper.still
  generalize (execOp a.eval o).run P w = r at *
  cases r with
  | ok n w' =>
    cases n <;> simp only [Oper.quietUpon] at h3 <;> simp only [Oper.stillUpon]
    case value u => obtain ⟨h4, rfl⟩ := h3; exact ⟨h4, h2⟩
    case skip => obtain ⟨h4, rfl⟩ := h3; exact ⟨h4, h2⟩
    case enter f args => exact ⟨h3.1, v, h3.2, h2⟩
  | halt x w' => simp only [Oper.quietUpon] at h3
theorem wpStill_of_quiet {P : Program} {ops : Array Oper} {w : World} {Q : Act → Prop} : ∀ (l : List Oper) (a : Act), wpQuiet P ops (fun x => x = w) Q l a → wpStill P ops w Q l a
  | [], _, h => h
  | o :: rest, a, h => by
    unfold wpQuiet at h
    unfold wpStill
    split
    · rename_i hw
      rw [if_pos hw] at h
      exact Oper.still_mono (fun a' h' => wpStill_of_quiet rest a' h') (still_of_quiet (ops := ops) h)
    · rename_i hw
      rw [if_neg hw] at h
      exact wpStill_of_quiet rest _ h
end Go.Proofs.YteabhblbefglpaaDoor
