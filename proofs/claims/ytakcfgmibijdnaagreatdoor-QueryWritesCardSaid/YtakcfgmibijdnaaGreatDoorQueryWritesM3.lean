/- percent.escape; percent.each, for each of the three functions that it is handed. -/
import Derived.Test.YtakcfgmibijdnaaGreatDoorQueryWritesM2
import Derived.Test.YtakcfgmibijdnaaGreatDoorQueryWritesM1
import Derived.Deep.QuietTactic
import Derived.BigQuiet
import Derived.Test.YtakcfgmibijdnaaGreatDoorShelf
import Derived.Lib.Builder
import Derived.Lib.AppendStr
import Derived.Lib.UnsafeStr
import Derived.Laws.Externs
import Derived.Deep.AppendSrc
import Derived.Deep.Upon

namespace Go.Proofs.YtakcfgmibijdnaaGreatDoor
open Go.RowKit

theorem ret_esc {a b : Int} {x y : Bool} (h : a = b) (k : x = y) : Ending.returned (.tuple #[.int .u8 a, .bool x]) = .returned (.tuple #[.int .u8 b, .bool y]) := by rw [h, k]
theorem byteAt_idx' {s : ByteArray} {i : Nat} (h : i < s.size) : s[i] = byteAt s i := by simp [byteAt, List.getD, h]; rfl

def EscPost (s : ByteArray) (i : Nat) (w : World) (e : Ending) (w' : World) : Prop := Below w.heap.size w w' ∧
  ((escOk s i = true ∧ e = .returned (.tuple #[.int .u8 ((escC s i).toNat : Int), .bool true])) ∨ (escOk s i = false ∧ e = .returned (.tuple #[.int .u8 0, .bool false])))

set_option maxHeartbeats 1600000 in
set_option maxRecDepth 100000 in
theorem percent_escape (s : ByteArray) (i : Nat) (w : World) (hs : s.size ≤ 16777216) (hi : i < s.size) : Calls Tryz.prog 190 #[.string s, .int .i64 (i : Int)] w (EscPost s i w) := by
  by_cases h3 : i + 3 ≤ s.size
  · have hsz := ext_size s (i + 1) (i + 3) (by omega) h3
    have hC := fun W => fold_Hex (s.extract (i + 1) (i + 3)) 255 W (by omega) (by omega)
    have hdef : numRes (s.extract (i + 1) (i + 3)) 16 255 = escRes s i := rfl
    have hok : escOk s i = decide ((escRes s i).2.1 = 0) := by unfold escOk; rw [decide_eq_true h3, Bool.true_and]
    have hc := @escC_nat s i
    have hz := fun h => numRes_zero (s.extract (i + 1) (i + 3)) 16 255 h
    have hm := fun h => numRes_most (s.extract (i + 1) (i + 3)) 16 255 h
    unfold NumPost at hC
    rw [hdef] at hC hz hm
    generalize escRes s i = r at *
    obtain ⟨n, k, j⟩ := r
    simp only at hC hz hm hok hc
    have HC := Lib.hid hC
    have HOK := Lib.hid hok
    have HCC := Lib.hid hc
    have HZ := Lib.hid hz
    have HM := Lib.hid hm
    have hi3 : (i : Int) + 3 ≤ (s.size : Int) := by omega
    clear hC hok hc hz hm hdef hsz h3
    go_enter Tryz.func190, Tryz.ntmps190
    go_wp2_with fail
    refine (HC.out _).mono ?_
    rintro e w1 ⟨v, rfl, hv, hb1⟩
    by_cases hk : k = 0
    · have hv0 : v = .nilIface := by
        rcases hv with ⟨_, h⟩ | ⟨h, _⟩
        · exact h
        · exact absurd hk h
      subst hv0
      have hn := HM.out hk
      have ho := HOK.out.trans (decide_eq_true hk)
      have hce := HCC.out ho
      have hw : IntKind.u8.wrap (n : Int) = (n : Int) := by unfold IntKind.wrap; simp [IntKind.signed, IntKind.bits]; omega
      have HO := Lib.hid ho
      have HCE := Lib.hid hce
      clear hk hv ho hce
      go_wp2_with fail
      go_quiet (fail)
      go_wp2_with fail
      go_ret2
      exact ⟨below_drewN hb1 _, .inl ⟨HO.out, ret_esc (by rw [HCE.out]) rfl⟩⟩
    · obtain ⟨inner, b, hvb, _⟩ : ∃ inner b, v = .iface 78 (.pointer (some ⟨b, 0, none⟩)) ∧ True := by
        rcases hv with ⟨h, _⟩ | ⟨_, n', b, h, _⟩
        · exact absurd h hk
        · exact ⟨n', b, h, trivial⟩
      subst hvb
      have hn := HZ.out hk
      have ho := HOK.out.trans (decide_eq_false hk)
      subst hn
      have HO := Lib.hid ho
      clear hk hv ho
      go_wp2_with fail
      go_quiet (fail)
      go_wp2_with fail
      go_ret2
      exact ⟨below_drewN hb1 _, .inr ⟨HO.out, rfl⟩⟩
  · have ho := Lib.hid (show escOk s i = false by unfold escOk; rw [decide_eq_false h3, Bool.false_and])
    have h3' : (s.size : Int) - (i : Int) < 3 := by omega
    clear h3
    go_enter Tryz.func190, Tryz.ntmps190
    go_wp2_with fail
    go_ret2
    exact ⟨Below.refl _ _, .inr ⟨ho.out, rfl⟩⟩

def EachPost (s : ByteArray) (Inv : List (UInt8 × Bool) → World → Prop) (e : Ending) (w' : World) : Prop :=
  Inv (told s).1 w' ∧ (((told s).2 = none ∧ e = .returned .nilIface) ∨ (∃ i, (told s).2 = some i ∧ ∃ v, e = .returned v ∧ IsFault w' v 11 i))

set_option maxHeartbeats 3200000 in
set_option maxRecDepth 100000 in
theorem each_Decode (b : Nat) (s : ByteArray) (hs : s.size ≤ 16777216) (Inv : List (UInt8 × Bool) → World → Prop) (hbelow : ∀ L w w', Inv L w → Below w.heap.size w w' → Inv L w')
    (hcall : ∀ L (c : UInt8) (esc : Bool) w, Inv L w → L.length ≤ s.size → Calls Tryz.prog 180 #[.int .u8 (c.toNat : Int), .bool esc, .pointer (some ⟨b, 0, none⟩)] w fun e w' => e = .returned (.tuple #[]) ∧ Inv (L ++ [(c, esc)]) w') (w : World) (h0 : Inv [] w) :
    Calls Tryz.prog 179 #[.string s, .func (.func 180) #[] #[.pointer (some ⟨b, 0, none⟩)]] w (EachPost s Inv) := by
  have HB := Lib.hid hbelow
  have HC := Lib.hid hcall
  clear hbelow hcall
  go_enter Tryz.func179, Tryz.ntmps179
  go_wp2_with fail
  go_loopw [5] (fun x wr => ∃ (i : Nat) (l : List (UInt8 × Bool)), i ≤ s.size ∧ x = .int .i64 i ∧ Told s l i ∧ Inv l wr) (fun x _ => s.size - (intOf x).toNat)
  case atStart => exact ⟨0, [], Nat.zero_le _, rfl, Told.zero s, h0⟩
  case round =>
    obtain ⟨i, l, hil, rfl, ht, hinv⟩ := hrel
    have HT := Lib.hid ht
    have HI := Lib.hid hinv
    have hll := ht.len
    clear ht hinv
    by_cases hlt : i < s.size
    · have hbk := byteAt_idx' hlt
      have hplain := fun h => HT.out.plain hlt h
      have hesc := fun h k => HT.out.esc hlt h k
      have hbad := fun h k => HT.out.bad hlt h k
      have hle := @escOk_le s i
      rw [← hbk] at hplain hesc hbad
      have hcp := HC.out l s[i] false wr HI.out (by omega)
      have hE := percent_escape s i wr hs hlt
      unfold EscPost at hE
      have HP := Lib.hid hplain
      have HE := Lib.hid hesc
      have HBD := Lib.hid hbad
      have HLE := Lib.hid hle
      have HCP := Lib.hid hcp
      have HEC := Lib.hid hE
      clear hplain hesc hbad hle hcp hE hbk
      by_cases h37 : s[i].toNat = 37
      · have e1 : ((s[i].toNat : Int) != 37) = false := by rw [h37]; rfl
        have H37 := Lib.hid h37
        clear h37
        go_wp2_with fail
        refine (HEC.out).mono ?_
        rintro e w1 ⟨hb1, h⟩
        have hinv1 := HB.out _ _ _ HI.out hb1
        rcases h with ⟨ho, rfl⟩ | ⟨ho, rfl⟩
        · have hi3 := HLE.out ho
          have ht2 := HE.out H37.out ho
          have hcc := HC.out l (escC s i) true w1 hinv1 (by omega)
          generalize escC s i = c at *
          have HT2 := Lib.hid ht2
          have HCC := Lib.hid hcc
          clear ho ht2 hcc hinv1
          go_wp2_with fail
          refine (HCC.out).mono ?_
          rintro e w2 ⟨rfl, hinv2⟩
          have HI2 := Lib.hid hinv2
          clear hinv2
          go_wp2_with fail
          go_roundw
          case rel => exact ⟨i + 3, _, by omega, by go_num, HT2.out, HI2.out⟩
          case measure => simp [intOf]; omega
        · have hb2 := HBD.out H37.out ho
          have HB2 := Lib.hid hb2
          have HI1 := Lib.hid hinv1
          clear ho hb2 hinv1
          go_wp2_with fail
          refine (api_Fail' 11 (i : Int) _).mono ?_
          rintro e w2 ⟨v, rfl, hv, hb3⟩
          have hinv2 := HB.out _ _ _ HI1.out hb3
          have HI2 := Lib.hid hinv2
          clear hinv2
          go_wp2_with fail
          go_ret
          exact ⟨by rw [HB2.out]; exact HI2.out, .inr ⟨i, by rw [HB2.out], v, rfl, hv⟩⟩
      · have e1 : ((s[i].toNat : Int) != 37) = true := by rw [bne_iff_ne]; omega
        have ht2 := HP.out h37
        have HT2 := Lib.hid ht2
        clear h37 ht2
        go_wp2_with fail
        refine (HCP.out).mono ?_
        rintro e w2 ⟨rfl, hinv2⟩
        have HI2 := Lib.hid hinv2
        clear hinv2
        go_wp2_with fail
        go_roundw
        case rel => exact ⟨i + 1, _, by omega, by go_num, HT2.out, HI2.out⟩
        case measure => simp [intOf]; omega
    · have hd := HT.out.done hlt
      obtain rfl : i = s.size := by omega
      have HD := Lib.hid hd
      clear hd
      go_wp2_with fail
      go_ret
      exact ⟨by rw [HD.out]; exact HI.out, .inl ⟨by rw [HD.out], rfl⟩⟩

end Go.Proofs.YtakcfgmibijdnaaGreatDoor

/- strings.Builder: copyCheck, WriteByte, WriteString (over a cut whose copyCheck holds a branch that no builder of the call's own reaches), String. -/
namespace Go.Proofs.YtakcfgmibijdnaaGreatDoor
open Go.RowKit

/-- A builder in block b, whose bytes lie in a row of the call's own, from B on. -/
def Bld (w : World) (B b : Nat) (l : List UInt8) : Prop :=
  b < B ∧ ∃ p v, (p = .pointer none ∨ p = .pointer (some ⟨b, 0, none⟩)) ∧ w.heap[b]? = some (.cells #[p, v] 153 (0, 0)) ∧ w.ownsRow B 5 1 v l.length (Lib.byteCells l)
/-- All blocks below B, but b, stand as they stood. -/
structure ButB (B b : Nat) (w w' : World) : Prop where
  os : w'.os = w.os
  tape : w'.tape = w.tape
  output : w'.output = w.output
  size : w.heap.size ≤ w'.heap.size
  block : ∀ k, k < B → k ≠ b → w'.heap[k]? = w.heap[k]?
theorem ButB.refl (B b : Nat) (w : World) : ButB B b w w := ⟨rfl, rfl, rfl, Nat.le_refl _, fun _ _ _ => rfl⟩
theorem ButB.trans {B b : Nat} {w w1 w2 : World} (h : ButB B b w w1) (k : ButB B b w1 w2) : ButB B b w w2 :=
  ⟨k.os.trans h.os, k.tape.trans h.tape, k.output.trans h.output, Nat.le_trans h.size k.size, fun i hi hn => (k.block i hi hn).trans (h.block i hi hn)⟩
theorem ButB.of_below {B b : Nat} {w w' : World} (h : Below B w w') : ButB B b w w' := ⟨h.os, h.tape, h.output, h.size, fun k hk _ => h.block k hk⟩
theorem ButB.setCell {B b : Nat} {w w' : World} (h : ButB B b w w') (j : Nat) (u : Value) : ButB B b w (w'.setCell ⟨b, j, none⟩ u) :=
  ⟨h.os, h.tape, h.output, by simpa [World.setCell] using h.size, fun k hk hn => (Below.heap_setCell w' ⟨b, j, none⟩ u k (fun e => hn e)).trans (h.block k hk hn)⟩
theorem ButB.below {B b B0 : Nat} {w w' : World} (h : ButB B b w w') (h1 : B0 ≤ b) (h2 : B0 ≤ B) : Below B0 w w' := ⟨h.os, h.tape, h.output, h.size, fun k hk => h.block k (by omega) (by omega)⟩
theorem BytesAt.but {w w' : World} {g B b : Nat} {l : List UInt8} (h : BytesAt w g l) (hb : ButB B b w w') (h1 : g < B) (h2 : g ≠ b) : BytesAt w' g l := by
  obtain ⟨e, rest, lo, hi, hlo, hh⟩ := h
  exact ⟨e, rest, lo, hi, hlo, (hb.block g h1 h2).trans hh⟩

theorem bld_size : (Tryz.prog.info? 153).map (·.size) = some 2 := by kernel_rfl
theorem bld_lies : liesAt Tryz.prog Tryz.prog.depth 153 (2 / Tryz.prog.cellsOf 153) 0 153 1 = true := by kernel_rfl
theorem bld_byte : (Tryz.prog.info? 5).map (fun i => (i.zero, i.size, i.bytes)) = some (some (.int .u8 0), 1, 1) := by kernel_rfl

theorem Bld.new {w' : World} {B b : Nat} {u : Obj} (hu : u = .cells #[.pointer none, .slice none 0 0] 153) (h : w'.heap[b]? = some u) (hb : b < B) : Bld w' B b [] :=
  ⟨hb, _, _, .inl rfl, by rw [h, hu], World.ownsRow_nil _ _ _ _⟩
theorem Bld.below {w w' : World} {B b : Nat} {l : List UInt8} (h : Bld w B b l) (hb : Below w.heap.size w w') : Bld w' B b l := by
  obtain ⟨h1, p, v, h2, h3, h4⟩ := h
  exact ⟨h1, p, v, h2, (hb.block b (lt_of_block h3)).trans h3, ownsRow_below h4 hb⟩
theorem Bld.lt {w : World} {B b : Nat} {l : List UInt8} (h : Bld w B b l) : b < w.heap.size := by
  obtain ⟨_, p, v, _, h3, _⟩ := h
  exact lt_of_block h3

set_option maxHeartbeats 1000000 in
set_option maxRecDepth 100000 in
theorem bld_check_used (b : Nat) (w : World) (h0 : w.cell? ⟨b, 0, none⟩ = some (.pointer (some ⟨b, 0, none⟩))) :
    Calls Tryz.prog 149 #[.pointer (some ⟨b, 0, none⟩)] w fun e w' => e = .returned (.tuple #[]) ∧ w' = w := by
  obtain ⟨j, hj, _⟩ := Option.map_eq_some_iff.1 bld_size
  have hnp := Lib.run_neq_ptr_same (P := Tryz.prog) w ⟨b, 0, none⟩ Tryz.underlying151 hj
  go_enter Tryz.func149, Tryz.ntmps149
  go_wp2
  go_end0
  exact ⟨rfl, rfl⟩
set_option maxHeartbeats 1000000 in
set_option maxRecDepth 100000 in
theorem bld_check_fresh (b : Nat) (w : World) (h0 : w.cell? ⟨b, 0, none⟩ = some (.pointer none)) (hsh : w.shape? b = some (153, 2)) (hfz : w.frozen? ⟨b, 0, none⟩ = false) :
    Calls Tryz.prog 149 #[.pointer (some ⟨b, 0, none⟩)] w fun e w' => e = .returned (.tuple #[]) ∧ w' = w.setCell ⟨b, 0, none⟩ (.pointer (some ⟨b, 0, none⟩)) := by
  obtain ⟨j, hj, hjs⟩ := Option.map_eq_some_iff.1 bld_size
  have k1 := Lib.run_to_unsafe (P := Tryz.prog) w ⟨b, 0, none⟩ Tryz.underlying151 Tryz.underlying124 hj (by rw [hjs]; decide) hsh (Nat.zero_lt_succ 1)
  have k2 : (callFunc 174 #[.pointer (some ⟨b, 0, none⟩)]).run Tryz.prog w = .ok (.value (.pointer (some ⟨b, 0, none⟩))) w := by
    rw [run_callFunc_extern Tryz.func174 (by kernel_rfl) (by kernel_rfl) (by kernel_rfl) (e := Extern.AbiNoEscape.same) (by kernel_rfl)]
    rw [Lib.run_noEscape]
    rfl
  have k3 := Lib.run_from_unsafe (P := Tryz.prog) w ⟨b, 0, none⟩ Tryz.underlying124 Tryz.underlying151 hj hsh bld_lies
  go_enter Tryz.func149, Tryz.ntmps149
  go_wp2
  go_end0
  exact ⟨rfl, rfl⟩
theorem bld_check (B b : Nat) (l : List UInt8) (w : World) (h : Bld w B b l) :
    Calls Tryz.prog 149 #[.pointer (some ⟨b, 0, none⟩)] w fun e w' => e = .returned (.tuple #[]) ∧ ButB B b w w' ∧ ∃ v, w'.heap[b]? = some (.cells #[.pointer (some ⟨b, 0, none⟩), v] 153 (0, 0)) ∧ w'.ownsRow B 5 1 v l.length (Lib.byteCells l) := by
  obtain ⟨h1, p, v, h2, h3, h4⟩ := h
  have c0 : w.cell? ⟨b, 0, none⟩ = some p := by rw [cell_of_row w b 0 _ _ _ h3]; rfl
  rcases h2 with rfl | rfl
  · refine (bld_check_fresh b w c0 (by simp [World.shape?, h3]) (Lib.frozen_of_heap h3 0)).mono ?_
    rintro e w' ⟨rfl, rfl⟩
    refine ⟨rfl, (ButB.refl B b w).setCell 0 _, v, by simp [World.setCell, Array.getElem?_modify, h3], ?_⟩
    refine h4.kept (row := some b) ⟨rfl, rfl, rfl, by simp [World.setCell], fun k _ hk => Below.heap_setCell _ _ _ _ (fun e => hk (by simp [e]))⟩ (.inr fun e => ?_)
    have := (h4.lt b e).1
    omega
  · refine (bld_check_used b w c0).mono ?_
    rintro e w' ⟨rfl, rfl⟩
    exact ⟨rfl, ButB.refl _ _ _, v, h3, h4⟩
theorem bld_put {w : World} {B b : Nat} {p v : Value} {n : Nat} {xs : List Value} {l : List UInt8} (hb : b < B) (hp : p = .pointer (some ⟨b, 0, none⟩)) {u : Value} (h3 : w.heap[b]? = some (.cells #[p, u] 153 (0, 0))) (h4 : w.ownsRow B 5 1 v n xs) (hn : n = l.length) (hx : xs = Lib.byteCells l) :
    Bld (w.setCell ⟨b, 1, none⟩ v) B b l := by
  subst hn hx
  refine ⟨hb, p, v, .inr hp, by simp [World.setCell, Array.getElem?_modify, h3], ?_⟩
  refine h4.kept (row := some b) ⟨rfl, rfl, rfl, by simp [World.setCell], fun k _ hk => Below.heap_setCell _ _ _ _ (fun e => hk (by simp [e]))⟩ (.inr fun e => ?_)
  have := (h4.lt b e).1
  omega

set_option maxHeartbeats 2000000 in
set_option maxRecDepth 100000 in
theorem bld_WriteByte (B b : Nat) (l : List UInt8) (c : UInt8) (w : World) (h : Bld w B b l) (hlen : l.length ≤ 1073741824) (hBw : B ≤ w.heap.size) :
    Calls Tryz.prog 108 #[.pointer (some ⟨b, 0, none⟩), .int .u8 (c.toNat : Int)] w fun e w' => e = .returned .nilIface ∧ Bld w' B b (l ++ [c]) ∧ ButB B b w w' := by
  obtain ⟨i0, hi, hz0, hz1, hz2⟩ := info_parts bld_byte
  have hbB := h.1
  go_enter Tryz.func108, Tryz.ntmps108
  go_wp2_with fail
  refine (bld_check B b l _ h).mono ?_
  rintro e w1 ⟨rfl, hb1, v, hbk, hown⟩
  have c0 : w1.cell? ⟨b, 0, none⟩ = some (.pointer (some ⟨b, 0, none⟩)) := by rw [Lib.cell_of_heap hbk]; rfl
  have c1 : w1.cell? ⟨b, 1, none⟩ = some v := by rw [Lib.cell_of_heap hbk]; rfl
  have hsz1 := hb1.size
  go_wp2_with (at_builtin; refine wpList_append_own _ rfl _ _ 56 rfl B 5 i0 (.int .u8 0) 1 1 Tryz.underlying56 hi hz0 hz1 hz2 rfl (by decide) _ _ _ rfl (hown.alloc _) ⟨w1.heap.size, 0, none⟩ 1 1 [.int .u8 (c.toNat : Int)] rfl rfl ?c1 ?c2 ?c3 ?c4 ?c5 ?_)
  case c1 =>
    intro j u hj
    match j, hj with
    | 0, hj => simp at hj; subst hj; simp [Addr.add]
  case c2 => intro u hu; simp at hu; subst hu; rfl
  case c3 => unfold maxLen; omega
  case c4 => omega
  case c5 => simp; omega
  intro v' w2 hown' hgrow _
  have hlt : b < w1.heap.size := lt_of_block hbk
  have hne : v.ownBlock ≠ some b := fun e => by have := (hown.lt b e).1; omega
  have hb2 : w2.heap[b]? = some (.cells #[.pointer (some ⟨b, 0, none⟩), v] 153 (0, 0)) := by
    rw [hgrow.block b (by simp; omega) (fun e => hne e.symm), Lib.alloc_old w1 _ b hlt]
    exact hbk
  have d0 : w2.cell? ⟨b, 0, none⟩ = some (.pointer (some ⟨b, 0, none⟩)) := by rw [Lib.cell_of_heap hb2]; rfl
  have d1 : w2.cell? ⟨b, 1, none⟩ = some v := by rw [Lib.cell_of_heap hb2]; rfl
  have f1 : w2.frozen? ⟨b, 1, none⟩ = false := Lib.frozen_of_heap hb2 1
  obtain ⟨g, cap, rfl⟩ : ∃ g cap, v' = .slice (some ⟨g, 0, none⟩) (l.length + 1) cap := by
    rcases hown'.2 with ⟨_, h0⟩ | ⟨g, cap, cur, hv, _⟩
    · omega
    · exact ⟨g, cap, hv⟩
  have hb12 : Below B w1 w2 := ((Below.refl B w1).alloc (by omega) _).grown hgrow (by simp; omega) (fun k hk => (hown.lt k hk).1)
  have hbe := ((hb1.trans (ButB.of_below hb12)).setCell 1 (.slice (some ⟨g, 0, none⟩) (l.length + 1) cap))
  have hput := bld_put (l := l ++ [c]) hbB rfl hb2 hown' (by simp) (by unfold Lib.byteCells; simp)
  clear hb12 hown' hown hgrow hb1
  go_wp2
  go_ret
  exact ⟨rfl, hput, hbe⟩

set_option maxHeartbeats 2000000 in
set_option maxRecDepth 100000 in
theorem bld_WriteString (B b : Nat) (l : List UInt8) (s : ByteArray) (w : World) (h : Bld w B b l) (hlen : l.length + s.size ≤ 1073741824) (hBw : B ≤ w.heap.size) :
    Calls Tryz.prog 109 #[.pointer (some ⟨b, 0, none⟩), .string s] w fun e w' => e = .returned (.tuple #[.int .i64 s.size, .nilIface]) ∧ Bld w' B b (l ++ s.data.toList) ∧ ButB B b w w' := by
  obtain ⟨i0, hi, hz0, hz1, hz2⟩ := info_parts bld_byte
  have hbB := h.1
  go_enter Tryz.func109, Tryz.ntmps109
  go_wp2_with fail
  refine (bld_check B b l _ h).mono ?_
  rintro e w1 ⟨rfl, hb1, v, hbk, hown⟩
  have c0 : w1.cell? ⟨b, 0, none⟩ = some (.pointer (some ⟨b, 0, none⟩)) := by rw [Lib.cell_of_heap hbk]; rfl
  have c1 : w1.cell? ⟨b, 1, none⟩ = some v := by rw [Lib.cell_of_heap hbk]; rfl
  have hsz1 := hb1.size
  go_wp2_with (at_builtin; refine Lib.wpList_append_own_string _ rfl _ _ 56 9 rfl B 5 i0 Tryz.underlying56 Tryz.underlying9 hi hz0 hz1 hz2 _ _ _ rfl hown s rfl ?c3 ?c4 ?c5 ?_)
  case c3 => unfold maxLen; omega
  case c4 => omega
  case c5 => omega
  intro v' w2 hown' hgrow _
  have hlt : b < w1.heap.size := lt_of_block hbk
  have hne : v.ownBlock ≠ some b := fun e => by have := (hown.lt b e).1; omega
  have hb2 : w2.heap[b]? = some (.cells #[.pointer (some ⟨b, 0, none⟩), v] 153 (0, 0)) := by
    rw [hgrow.block b hlt (fun e => hne e.symm)]
    exact hbk
  have d0 : w2.cell? ⟨b, 0, none⟩ = some (.pointer (some ⟨b, 0, none⟩)) := by rw [Lib.cell_of_heap hb2]; rfl
  have d1 : w2.cell? ⟨b, 1, none⟩ = some v := by rw [Lib.cell_of_heap hb2]; rfl
  have f1 : w2.frozen? ⟨b, 1, none⟩ = false := Lib.frozen_of_heap hb2 1
  obtain ⟨ao, n', cap, rfl⟩ : ∃ ao n' cap, v' = .slice ao n' cap := by
    rcases hown'.2 with ⟨hv, _⟩ | ⟨g, cap, cur, hv, _⟩
    · exact ⟨_, _, _, hv⟩
    · exact ⟨_, _, _, hv⟩
  have hb12 : Below B w1 w2 := (Below.refl B w1).grown hgrow (by omega) (fun k hk => (hown.lt k hk).1)
  have hbe := ((hb1.trans (ButB.of_below hb12)).setCell 1 (.slice ao n' cap))
  have hput := bld_put (l := l ++ s.data.toList) hbB rfl hb2 hown' (by simp [Lib.strCells_length]) (by unfold Lib.byteCells Lib.strCells; simp)
  clear hb12 hown' hown hgrow hb1
  go_wp2
  go_ret2
  exact ⟨rfl, hput, hbe⟩

theorem bld_String (B b : Nat) (l : List UInt8) (w : World) (h : Bld w B b l) (hBw : B ≤ w.heap.size) :
    Calls Tryz.prog 111 #[.pointer (some ⟨b, 0, none⟩)] w fun e w' => e = .returned (.string ⟨l.toArray⟩) ∧ Below b w w' := by
  obtain ⟨h1, p, v, h2, h3, h4⟩ := h
  have hne : v.ownBlock ≠ some b := fun e => by have := (h4.lt b e).1; omega
  have hw : w.ownsRow b 5 1 v (Lib.byteCells l).length (Lib.byteCells l) := by rw [Lib.byteCells_length]; exact ownsRow_base h4 (Nat.le_of_lt h1)
  have hi : Lib.IsBuilder 153 5 b b (Lib.byteCells l) w := by
    rcases h2 with rfl | rfl
    · exact .inl ⟨Nat.le_refl _, v, h3, hw, hne⟩
    · exact .inr ⟨Nat.le_refl _, v, h3, hw, hne⟩
  exact Tryz.Builder_String_any b b l w hi (by omega)
end Go.Proofs.YtakcfgmibijdnaaGreatDoor

/- Bytes in memory that read as a text; slices of bytes that read as one. -/
namespace Go.Proofs.YtakcfgmibijdnaaGreatDoor
open Go.RowKit

/-- The bytes of a text stand in memory, from a place of a block on. -/
def BytesIn (w : World) (b off : Nat) (s : ByteArray) : Prop := ∀ j, j < s.size → w.cell? ⟨b, off + j, none⟩ = some (.int .u8 ((byteAt s j).toNat : Int))
theorem BytesIn.below {w w' : World} {b off B : Nat} {s : ByteArray} (h : BytesIn w b off s) (hb : Below B w w') (hg : b < B) : BytesIn w' b off s :=
  fun j hj => (hb.cell (p := ⟨b, off + j, none⟩) hg).trans (h j hj)
theorem BytesIn.drewN {w : World} {b off : Nat} {s : ByteArray} (h : BytesIn w b off s) (n : Nat) : BytesIn (w.drewN n) b off s := h
theorem BytesAt.isIn {w : World} {g : Nat} {s : ByteArray} (h : BytesAt w g s.data.toList) : BytesIn w g 0 s := fun j hj => by rw [Nat.zero_add]; exact h.byte hj

/-- A slice of bytes that reads as a text. -/
def BytesSl (w : World) (v : Value) (s : ByteArray) : Prop :=
  (s.size = 0 ∧ ∃ a cap, v = .slice a 0 cap) ∨ ∃ b off cap, v = .slice (some ⟨b, off, none⟩) s.size cap ∧ s.size ≤ cap ∧ cap ≤ maxLen ∧ b < w.heap.size ∧ BytesIn w b off s
theorem BytesSl.below {w w' : World} {v : Value} {s : ByteArray} (h : BytesSl w v s) (hb : Below w.heap.size w w') : BytesSl w' v s := by
  rcases h with h | ⟨b, off, cap, e, h1, h2, h3, h4⟩
  · exact .inl h
  · exact .inr ⟨b, off, cap, e, h1, h2, Nat.lt_of_lt_of_le h3 hb.size, h4.below hb h3⟩
theorem BytesSl.drewN {w : World} {v : Value} {s : ByteArray} (h : BytesSl w v s) (n : Nat) : BytesSl (w.drewN n) v s := h

theorem BytesSl.lit (w : World) (l : List UInt8) (cs : Array Value) (n : Nat) (hcs : cs = (l.map byteV).toArray) (hn : n = l.length) (hl : l.length ≤ 16777216) :
    BytesSl (w.alloc (.cells cs 5)) (.slice (some ⟨w.heap.size, 0, none⟩) n n) ⟨l.toArray⟩ := by
  have hsz : (⟨l.toArray⟩ : ByteArray).size = l.length := by show l.toArray.size = _; simp
  refine .inr ⟨w.heap.size, 0, n, by rw [hsz, hn], by rw [hsz, hn]; exact Nat.le_refl _, by unfold maxLen; omega, by simp, fun j hj => ?_⟩
  rw [hsz] at hj
  subst hcs
  rw [World.cell?_alloc_at _ _ _ _ rfl]
  simp [byteAt, byteV, hj]
end Go.Proofs.YtakcfgmibijdnaaGreatDoor

/- Bytes that a call owns: appending bytes, or a string's bytes, to them. -/
namespace Go.Proofs.YtakcfgmibijdnaaGreatDoor
open Go.RowKit

theorem info_byte : (Tryz.prog.info? 5).map (fun i => (i.zero, i.size, i.bytes)) = some (some (.int .u8 0), 1, 1) := by kernel_rfl

/-- A slice of bytes of the call's own. -/
def OwnB (w : World) (base : Nat) (v : Value) (l : List UInt8) : Prop := w.ownsRow base 5 1 v l.length (l.map byteV)

section
variable {w w' : World} {base : Nat} {v : Value} {l : List UInt8}
theorem OwnB.nil (w : World) (base : Nat) : OwnB w base (.slice none 0 0) [] := World.ownsRow_nil _ _ _ _
theorem OwnB.lit (w : World) (l : List UInt8) (cs : Array Value) (n : Nat) (hcs : cs = (l.map byteV).toArray) (hn : n = l.length) (hb : base ≤ w.heap.size) (hl : l.length ≤ 16777216) :
    OwnB (w.alloc (.cells cs 5)) base (.slice (some ⟨w.heap.size, 0, none⟩) n n) l := by
  subst hn
  have h := World.ownsRow_lit (base := base) (e := 5) (size := 1) w cs l.length hb (by unfold maxLen; omega) (by rw [hcs]; simp)
  unfold OwnB
  rw [hcs] at h ⊢
  simpa using h
theorem OwnB.below (h : OwnB w base v l) (hb : Below w.heap.size w w') : OwnB w' base v l := ownsRow_below h hb
theorem OwnB.base' {b : Nat} (h : OwnB w base v l) (hb : b ≤ base) : OwnB w b v l := ownsRow_base h hb
theorem OwnB.shape (h : OwnB w base v l) : (l = [] ∧ v = .slice none 0 0) ∨ ∃ g cap, v = .slice (some ⟨g, 0, none⟩) l.length cap ∧ l.length ≤ cap ∧ cap ≤ maxLen ∧ base ≤ g ∧ g < w.heap.size := by
  rcases h.2 with ⟨h0, h1⟩ | ⟨g, cap, cur, rfl, hg, hh, h1, h2, _⟩
  · exact .inl ⟨List.eq_nil_of_length_eq_zero h1, h0⟩
  · exact .inr ⟨g, cap, rfl, h1, h2, hg, lt_of_block hh⟩
theorem OwnB.sl (h : OwnB w base v l) : BytesSl w v ⟨l.toArray⟩ := by
  have hsz : (⟨l.toArray⟩ : ByteArray).size = l.length := by show l.toArray.size = _; simp
  rcases h.shape with ⟨rfl, rfl⟩ | ⟨g, cap, rfl, h1, h2, _, h4⟩
  · exact .inl ⟨rfl, none, 0, rfl⟩
  · refine .inr ⟨g, 0, cap, by rw [hsz], by rw [hsz]; exact h1, h2, h4, fun j hj => ?_⟩
    rw [hsz] at hj
    rw [Nat.zero_add, World.ownsRow.cellAt h j (by omega)]
    simp [hj, byteV, byteAt]
end

section
variable {w : World} {ops : Array Oper} {rest : List Oper} {o : Oper} {a : Act} {Q : Exit → Act → World → Prop}

theorem wpList_app_bytes (hgd : o.guard = none) (s x : Operand) (ho : o.op = .call { callee := .builtin .append, args := #[s, x], argTypes := #[56, 56] })
    (base : Nat) (v : Value) (l : List UInt8) (hs : a.eval s = v) (hown : OwnB w base v l) (y : Value) (S : ByteArray) (hx : a.eval x = y) (hy : BytesSl w y S)
    (hl : l.length + S.size ≤ 1073741824) (hbase : base ≤ w.heap.size)
    (h : ∀ v' w', OwnB w' base v' (l ++ S.data.toList) → w.grownBy w' v.ownBlock → wpList Tryz.prog ops Q rest (a.put o.dst v') w') : wpList Tryz.prog ops Q (o :: rest) a w := by
  obtain ⟨i, hi, hz, hsize, hby⟩ := info_parts info_byte
  have hSl : S.data.toList.length = S.size := rfl
  rcases hy with ⟨h0, ad, cap, rfl⟩ | ⟨b, off, cap, rfl, hc, hcm, hbs, hp⟩
  · have hS : S.data.toList = [] := List.eq_nil_of_length_eq_zero (by rw [hSl]; exact h0)
    have hsrc : Src Tryz.prog i.size 56 (.slice ad 0 cap) 0 [] w := by
      cases ad with
      | none => exact Src.ofNil w Tryz.underlying56 cap
      | some ad => exact Src.ofSlice w Tryz.underlying56 ad 0 cap [] (by simp) (by simp) (by simp)
    refine wpList_plain hgd fun K hK => ?_
    have hrun : (Builtin.append_ #[56, 56] o.type #[v, .slice ad 0 cap]).run Tryz.prog w = .ok v w := by
      rcases hown.shape with ⟨_, rfl⟩ | ⟨g, c, rfl, h1, _⟩
      · exact run_append_nothing w _ _ _ 5 i Tryz.underlying56 hi none 0 0 (Nat.le_refl _) _ hsrc
      · exact run_append_nothing w _ _ _ 5 i Tryz.underlying56 hi _ _ _ h1 _ hsrc
    unfold Oper.wp
    simp [execOp, ho, resolve, invoke, builtin, hs, hx, hrun, Result.andThen]
    refine hK _ _ (h v w (by rw [hS, List.append_nil]; exact hown) (below_grownBy (Below.refl _ _) _))
  · refine wpList_append_own _ hgd s x 56 ho base 5 i (.int .u8 0) 1 1 Tryz.underlying56 hi hz hsize hby rfl (by decide) v _ _ hs hown _ _ cap (S.data.toList.map byteV) hx (by simp [hSl]) ?_ ?_ (by unfold maxLen; omega) (by omega) hbase ?_
    · intro j u hj
      have hj' : j < S.size := by
        have := (List.getElem?_eq_some_iff.1 hj).1
        simpa [hSl] using this
      rw [Addr.add_lit, hp j hj', ← hj]
      have hj2 : j < S.data.toList.length := hj'
      simp only [List.getElem?_map, List.getElem?_eq_getElem hj2, Option.map_some, byteV, byteAt, List.getD, Option.getD_some]
    · intro u hu
      obtain ⟨_, _, rfl⟩ := List.mem_map.1 hu
      rfl
    · intro v' w' h1 h2 _
      refine h v' w' ?_ h2
      unfold OwnB
      rw [List.length_append, List.map_append, hSl]
      exact h1
end
end Go.Proofs.YtakcfgmibijdnaaGreatDoor

/- Where a call's own bytes grow, what stood before stands. -/
namespace Go.Proofs.YtakcfgmibijdnaaGreatDoor
open Go.RowKit

theorem OwnB.under {w0 w w' : World} {base : Nat} {v : Value} {l : List UInt8} (h : OwnB w base v l) (hb : Below w0.heap.size w0 w) (hB : w0.heap.size ≤ base) (hg : w.grownBy w' v.ownBlock) : Below w0.heap.size w0 w' :=
  hb.grown hg hb.size (fun j hj => Nat.le_trans hB (World.ownsRow.lt h j hj).1)
theorem row_len {w : World} {base : Nat} {e : TypeId} {size : Nat} {v : Value} {n : Nat} {xs : List Value} (h : w.ownsRow base e size v n xs) : ∃ a cap, v = .slice a n cap := by
  rcases h.2 with ⟨h0, h1⟩ | ⟨g, cap, cur, rfl, _⟩
  · exact ⟨none, 0, by rw [h0, h1]⟩
  · exact ⟨_, _, rfl⟩
end Go.Proofs.YtakcfgmibijdnaaGreatDoor
