/- percent.escape; percent.each, for each of the three functions that it is handed. -/
import Derived.Test.YteabhblbefglpaaDoorQueryFindsM15
import Derived.Test.YteabhblbefglpaaDoorQueryFindsM4
import Derived.Deep.QuietTactic
import Derived.BigQuiet
import Derived.Test.YteabhblbefglpaaDoorQueryFindsM1
import Derived.Test.YteabhblbefglpaaDoorShelf
import Derived.Lib.Builder
import Derived.Lib.AppendStr
import Derived.Lib.UnsafeStr
import Derived.Laws.Externs
import Derived.Test.YteabhblbefglpaaDoorQueryFindsM14
import Derived.Test.YteabhblbefglpaaDoorQueryFindsM13
import Derived.Test.YteabhblbefglpaaDoorQueryFindsM2
import Derived.Test.YteabhblbefglpaaDoorQueryFindsM3
import Derived.Laws.BytesArg

namespace Go.Proofs.YteabhblbefglpaaDoor
open Go.RowKit

theorem ret_esc {a b : Int} {x y : Bool} (h : a = b) (k : x = y) : Ending.returned (.tuple #[.int .u8 a, .bool x]) = .returned (.tuple #[.int .u8 b, .bool y]) := by rw [h, k]
theorem byteAt_idx' {s : ByteArray} {i : Nat} (h : i < s.size) : s[i] = byteAt s i := by simp [byteAt, List.getD, h]; rfl

def EscPost (s : ByteArray) (i : Nat) (w : World) (e : Ending) (w' : World) : Prop := Below w.heap.size w w' ∧
  ((escOk s i = true ∧ e = .returned (.tuple #[.int .u8 ((escC s i).toNat : Int), .bool true])) ∨ (escOk s i = false ∧ e = .returned (.tuple #[.int .u8 0, .bool false])))

set_option maxHeartbeats 1600000 in
set_option maxRecDepth 100000 in
theorem percent_escape (s : ByteArray) (i : Nat) (w : World) (hs : s.size ≤ 16777216) (hi : i < s.size) : Calls Tryd.prog 175 #[.string s, .int .i64 (i : Int)] w (EscPost s i w) := by
  by_cases h3 : i + 3 ≤ s.size
  · have hsz := ext_size s (i + 1) (i + 3) (by omega) h3
    have hC := fun W => fold_Hex (s.extract (i + 1) (i + 3)) 255 W (by omega) (by omega)
    have hdef : numRes (s.extract (i + 1) (i + 3)) 16 255 = escRes s i := rfl
    have hok : escOk s i = decide ((escRes s i).2.1 = 0) := by unfold escOk; rw [decide_eq_true h3, Bool.true_and]
    have hc := @escC_nat s i
    have hz := fun h => numRes_zero (s.extract (i + 1) (i + 3)) 16 255 h
    have hm := fun h => numRes_most (s.extract (i + 1) (i + 3)) 16 255 h
    unfold NumPost at hC
    rw [hdef] at hC hz hm
    generalize escRes s i = r at *
    obtain ⟨n, k, j⟩ := r
    simp only at hC hz hm hok hc
    have HC := Lib.hid hC
    have HOK := Lib.hid hok
    have HCC := Lib.hid hc
    have HZ := Lib.hid hz
    have HM := Lib.hid hm
    have hi3 : (i : Int) + 3 ≤ (s.size : Int) := by omega
    clear hC hok hc hz hm hdef hsz h3
    go_enter Tryd.func175, Tryd.ntmps175
    go_wp2_with fail
    refine (HC.out _).mono ?_
    rintro e w1 ⟨v, rfl, hv, hb1⟩
    by_cases hk : k = 0
    · have hv0 : v = .nilIface := by
        rcases hv with ⟨_, h⟩ | ⟨h, _⟩
        · exact h
        · exact absurd hk h
      subst hv0
      have hn := HM.out hk
      have ho := HOK.out.trans (decide_eq_true hk)
      have hce := HCC.out ho
      have hw : IntKind.u8.wrap (n : Int) = (n : Int) := by unfold IntKind.wrap; simp [IntKind.signed, IntKind.bits]; omega
      have HO := Lib.hid ho
      have HCE := Lib.hid hce
      clear hk hv ho hce
      go_wp2_with fail
      go_quiet (fail)
      go_wp2_with fail
      go_ret2
      exact ⟨below_drewN hb1 _, .inl ⟨HO.out, ret_esc (by rw [HCE.out]) rfl⟩⟩
    · obtain ⟨inner, b, hvb, _⟩ : ∃ inner b, v = .iface 77 (.pointer (some ⟨b, 0, none⟩)) ∧ True := by
        rcases hv with ⟨h, _⟩ | ⟨_, n', b, h, _⟩
        · exact absurd h hk
        · exact ⟨n', b, h, trivial⟩
      subst hvb
      have hn := HZ.out hk
      have ho := HOK.out.trans (decide_eq_false hk)
      subst hn
      have HO := Lib.hid ho
      clear hk hv ho
      go_wp2_with fail
      go_quiet (fail)
      go_wp2_with fail
      go_ret2
      exact ⟨below_drewN hb1 _, .inr ⟨HO.out, rfl⟩⟩
  · have ho := Lib.hid (show escOk s i = false by unfold escOk; rw [decide_eq_false h3, Bool.false_and])
    have h3' : (s.size : Int) - (i : Int) < 3 := by omega
    clear h3
    go_enter Tryd.func175, Tryd.ntmps175
    go_wp2_with fail
    go_ret2
    exact ⟨Below.refl _ _, .inr ⟨ho.out, rfl⟩⟩

def EachPost (s : ByteArray) (Inv : List (UInt8 × Bool) → World → Prop) (e : Ending) (w' : World) : Prop :=
  Inv (told s).1 w' ∧ (((told s).2 = none ∧ e = .returned .nilIface) ∨ (∃ i, (told s).2 = some i ∧ ∃ v, e = .returned v ∧ IsFault w' v 11 i))


set_option maxHeartbeats 3200000 in
set_option maxRecDepth 100000 in
theorem each_Decode (b : Nat) (s : ByteArray) (hs : s.size ≤ 16777216) (Inv : List (UInt8 × Bool) → World → Prop) (hbelow : ∀ L w w', Inv L w → Below w.heap.size w w' → Inv L w')
    (hcall : ∀ L (c : UInt8) (esc : Bool) w, Inv L w → L.length ≤ s.size → Calls Tryd.prog 156 #[.int .u8 (c.toNat : Int), .bool esc, .pointer (some ⟨b, 0, none⟩)] w fun e w' => e = .returned (.tuple #[]) ∧ Inv (L ++ [(c, esc)]) w') (w : World) (h0 : Inv [] w) :
    Calls Tryd.prog 155 #[.string s, .func (.func 156) #[] #[.pointer (some ⟨b, 0, none⟩)]] w (EachPost s Inv) := by
  have HB := Lib.hid hbelow
  have HC := Lib.hid hcall
  clear hbelow hcall
  go_enter Tryd.func155, Tryd.ntmps155
  go_wp2_with fail
  go_loopw [5] (fun x wr => ∃ (i : Nat) (l : List (UInt8 × Bool)), i ≤ s.size ∧ x = .int .i64 i ∧ Told s l i ∧ Inv l wr) (fun x _ => s.size - (intOf x).toNat)
  case atStart => exact ⟨0, [], Nat.zero_le _, rfl, Told.zero s, h0⟩
  case round =>
    obtain ⟨i, l, hil, rfl, ht, hinv⟩ := hrel
    have HT := Lib.hid ht
    have HI := Lib.hid hinv
    have hll := ht.len
    clear ht hinv
    by_cases hlt : i < s.size
    · have hbk := byteAt_idx' hlt
      have hplain := fun h => HT.out.plain hlt h
      have hesc := fun h k => HT.out.esc hlt h k
      have hbad := fun h k => HT.out.bad hlt h k
      have hle := @escOk_le s i
      rw [← hbk] at hplain hesc hbad
      have hcp := HC.out l s[i] false wr HI.out (by omega)
      have hE := percent_escape s i wr hs hlt
      unfold EscPost at hE
      have HP := Lib.hid hplain
      have HE := Lib.hid hesc
      have HBD := Lib.hid hbad
      have HLE := Lib.hid hle
      have HCP := Lib.hid hcp
      have HEC := Lib.hid hE
      clear hplain hesc hbad hle hcp hE hbk
      by_cases h37 : s[i].toNat = 37
      · have e1 : ((s[i].toNat : Int) != 37) = false := by rw [h37]; rfl
        have H37 := Lib.hid h37
        clear h37
        go_wp2_with fail
        refine (HEC.out).mono ?_
        rintro e w1 ⟨hb1, h⟩
        have hinv1 := HB.out _ _ _ HI.out hb1
        rcases h with ⟨ho, rfl⟩ | ⟨ho, rfl⟩
        · have hi3 := HLE.out ho
          have ht2 := HE.out H37.out ho
          have hcc := HC.out l (escC s i) true w1 hinv1 (by omega)
          generalize escC s i = c at *
          have HT2 := Lib.hid ht2
          have HCC := Lib.hid hcc
          clear ho ht2 hcc hinv1
          go_wp2_with fail
          refine (HCC.out).mono ?_
          rintro e w2 ⟨rfl, hinv2⟩
          have HI2 := Lib.hid hinv2
          clear hinv2
          go_wp2_with fail
          go_roundw
          case rel => exact ⟨i + 3, _, by omega, by go_num, HT2.out, HI2.out⟩
          case measure => simp [intOf]; omega
        · have hb2 := HBD.out H37.out ho
          have HB2 := Lib.hid hb2
          have HI1 := Lib.hid hinv1
          clear ho hb2 hinv1
          go_wp2_with fail
          refine (api_Fail' 11 (i : Int) _).mono ?_
          rintro e w2 ⟨v, rfl, hv, hb3⟩
          have hinv2 := HB.out _ _ _ HI1.out hb3
          have HI2 := Lib.hid hinv2
          clear hinv2
          go_wp2_with fail
          go_ret
          exact ⟨by rw [HB2.out]; exact HI2.out, .inr ⟨i, by rw [HB2.out], v, rfl, hv⟩⟩
      · have e1 : ((s[i].toNat : Int) != 37) = true := by rw [bne_iff_ne]; omega
        have ht2 := HP.out h37
        have HT2 := Lib.hid ht2
        clear h37 ht2
        go_wp2_with fail
        refine (HCP.out).mono ?_
        rintro e w2 ⟨rfl, hinv2⟩
        have HI2 := Lib.hid hinv2
        clear hinv2
        go_wp2_with fail
        go_roundw
        case rel => exact ⟨i + 1, _, by omega, by go_num, HT2.out, HI2.out⟩
        case measure => simp [intOf]; omega
    · have hd := HT.out.done hlt
      obtain rfl : i = s.size := by omega
      have HD := Lib.hid hd
      clear hd
      go_wp2_with fail
      go_ret
      exact ⟨by rw [HD.out]; exact HI.out, .inl ⟨by rw [HD.out], rfl⟩⟩

end Go.Proofs.YteabhblbefglpaaDoor

/- strings.Builder: copyCheck, WriteByte, WriteString (over a cut whose copyCheck holds a branch that no builder of the call's own reaches), String. -/
namespace Go.Proofs.YteabhblbefglpaaDoor
open Go.RowKit

/-- A builder in block b, whose bytes lie in a row of the call's own, from B on. -/
def Bld (w : World) (B b : Nat) (l : List UInt8) : Prop :=
  b < B ∧ ∃ p v, (p = .pointer none ∨ p = .pointer (some ⟨b, 0, none⟩)) ∧ w.heap[b]? = some (.cells #[p, v] 225 (0, 0)) ∧ w.ownsRow B 5 1 v l.length (Lib.byteCells l)
/-- All blocks below B, but b, stand as they stood. -/
structure ButB (B b : Nat) (w w' : World) : Prop where
  os : w'.os = w.os
  tape : w'.tape = w.tape
  output : w'.output = w.output
  size : w.heap.size ≤ w'.heap.size
  block : ∀ k, k < B → k ≠ b → w'.heap[k]? = w.heap[k]?
theorem ButB.refl (B b : Nat) (w : World) : ButB B b w w := ⟨rfl, rfl, rfl, Nat.le_refl _, fun _ _ _ => rfl⟩
theorem ButB.trans {B b : Nat} {w w1 w2 : World} (h : ButB B b w w1) (k : ButB B b w1 w2) : ButB B b w w2 :=
  ⟨k.os.trans h.os, k.tape.trans h.tape, k.output.trans h.output, Nat.le_trans h.size k.size, fun i hi hn => (k.block i hi hn).trans (h.block i hi hn)⟩
theorem ButB.of_below {B b : Nat} {w w' : World} (h : Below B w w') : ButB B b w w' := ⟨h.os, h.tape, h.output, h.size, fun k hk _ => h.block k hk⟩
theorem ButB.setCell {B b : Nat} {w w' : World} (h : ButB B b w w') (j : Nat) (u : Value) : ButB B b w (w'.setCell ⟨b, j, none⟩ u) :=
  ⟨h.os, h.tape, h.output, by simpa [World.setCell] using h.size, fun k hk hn => (Below.heap_setCell w' ⟨b, j, none⟩ u k (fun e => hn e)).trans (h.block k hk hn)⟩
theorem ButB.below {B b B0 : Nat} {w w' : World} (h : ButB B b w w') (h1 : B0 ≤ b) (h2 : B0 ≤ B) : Below B0 w w' := ⟨h.os, h.tape, h.output, h.size, fun k hk => h.block k (by omega) (by omega)⟩
theorem BytesAt.but {w w' : World} {g B b : Nat} {l : List UInt8} (h : BytesAt w g l) (hb : ButB B b w w') (h1 : g < B) (h2 : g ≠ b) : BytesAt w' g l := by
  obtain ⟨e, rest, lo, hi, hlo, hh⟩ := h
  exact ⟨e, rest, lo, hi, hlo, (hb.block g h1 h2).trans hh⟩

theorem bld_size : (Tryd.prog.info? 225).map (·.size) = some 2 := by kernel_rfl
theorem bld_lies : liesAt Tryd.prog Tryd.prog.depth 225 (2 / Tryd.prog.cellsOf 225) 0 225 1 = true := by kernel_rfl
theorem bld_byte : (Tryd.prog.info? 5).map (fun i => (i.zero, i.size, i.bytes)) = some (some (.int .u8 0), 1, 1) := by kernel_rfl

theorem Bld.new {w' : World} {B b : Nat} {u : Obj} (hu : u = .cells #[.pointer none, .slice none 0 0] 225) (h : w'.heap[b]? = some u) (hb : b < B) : Bld w' B b [] :=
  ⟨hb, _, _, .inl rfl, by rw [h, hu], World.ownsRow_nil _ _ _ _⟩
theorem Bld.below {w w' : World} {B b : Nat} {l : List UInt8} (h : Bld w B b l) (hb : Below w.heap.size w w') : Bld w' B b l := by
  obtain ⟨h1, p, v, h2, h3, h4⟩ := h
  exact ⟨h1, p, v, h2, (hb.block b (lt_of_block h3)).trans h3, ownsRow_below h4 hb⟩
theorem Bld.lt {w : World} {B b : Nat} {l : List UInt8} (h : Bld w B b l) : b < w.heap.size := by
  obtain ⟨_, p, v, _, h3, _⟩ := h
  exact lt_of_block h3

set_option maxHeartbeats 1000000 in
set_option maxRecDepth 100000 in
theorem bld_check_used (b : Nat) (w : World) (h0 : w.cell? ⟨b, 0, none⟩ = some (.pointer (some ⟨b, 0, none⟩))) :
    Calls Tryd.prog 180 #[.pointer (some ⟨b, 0, none⟩)] w fun e w' => e = .returned (.tuple #[]) ∧ w' = w := by
  obtain ⟨j, hj, _⟩ := Option.map_eq_some_iff.1 bld_size
  have hnp := Lib.run_neq_ptr_same (P := Tryd.prog) w ⟨b, 0, none⟩ Tryd.underlying223 hj
  go_enter Tryd.func180, Tryd.ntmps180
  go_wp2
  go_end0
  exact ⟨rfl, rfl⟩
set_option maxHeartbeats 1000000 in
set_option maxRecDepth 100000 in
theorem bld_check_fresh (b : Nat) (w : World) (h0 : w.cell? ⟨b, 0, none⟩ = some (.pointer none)) (hsh : w.shape? b = some (225, 2)) (hfz : w.frozen? ⟨b, 0, none⟩ = false) :
    Calls Tryd.prog 180 #[.pointer (some ⟨b, 0, none⟩)] w fun e w' => e = .returned (.tuple #[]) ∧ w' = w.setCell ⟨b, 0, none⟩ (.pointer (some ⟨b, 0, none⟩)) := by
  obtain ⟨j, hj, hjs⟩ := Option.map_eq_some_iff.1 bld_size
  have k1 := Lib.run_to_unsafe (P := Tryd.prog) w ⟨b, 0, none⟩ Tryd.underlying223 Tryd.underlying122 hj (by rw [hjs]; decide) hsh (Nat.zero_lt_succ 1)
  have k2 : (callFunc 185 #[.pointer (some ⟨b, 0, none⟩)]).run Tryd.prog w = .ok (.value (.pointer (some ⟨b, 0, none⟩))) w := by
    rw [run_callFunc_extern Tryd.func185 (by kernel_rfl) (by kernel_rfl) (by kernel_rfl) (e := Extern.AbiNoEscape.same) (by kernel_rfl)]
    rw [Lib.run_noEscape]
    rfl
  have k3 := Lib.run_from_unsafe (P := Tryd.prog) w ⟨b, 0, none⟩ Tryd.underlying122 Tryd.underlying223 hj hsh bld_lies
  go_enter Tryd.func180, Tryd.ntmps180
  go_wp2
  go_end0
  exact ⟨rfl, rfl⟩
theorem bld_check (B b : Nat) (l : List UInt8) (w : World) (h : Bld w B b l) :
    Calls Tryd.prog 180 #[.pointer (some ⟨b, 0, none⟩)] w fun e w' => e = .returned (.tuple #[]) ∧ ButB B b w w' ∧ ∃ v, w'.heap[b]? = some (.cells #[.pointer (some ⟨b, 0, none⟩), v] 225 (0, 0)) ∧ w'.ownsRow B 5 1 v l.length (Lib.byteCells l) := by
  obtain ⟨h1, p, v, h2, h3, h4⟩ := h
  have c0 : w.cell? ⟨b, 0, none⟩ = some p := by rw [cell_of_row w b 0 _ _ _ h3]; rfl
  rcases h2 with rfl | rfl
  · refine (bld_check_fresh b w c0 (by simp [World.shape?, h3]) (Lib.frozen_of_heap h3 0)).mono ?_
    rintro e w' ⟨rfl, rfl⟩
    refine ⟨rfl, (ButB.refl B b w).setCell 0 _, v, by simp [World.setCell, Array.getElem?_modify, h3], ?_⟩
    refine h4.kept (row := some b) ⟨rfl, rfl, rfl, by simp [World.setCell], fun k _ hk => Below.heap_setCell _ _ _ _ (fun e => hk (by simp [e]))⟩ (.inr fun e => ?_)
    have := (h4.lt b e).1
    omega
  · refine (bld_check_used b w c0).mono ?_
    rintro e w' ⟨rfl, rfl⟩
    exact ⟨rfl, ButB.refl _ _ _, v, h3, h4⟩
theorem bld_put {w : World} {B b : Nat} {p v : Value} {n : Nat} {xs : List Value} {l : List UInt8} (hb : b < B) (hp : p = .pointer (some ⟨b, 0, none⟩)) {u : Value} (h3 : w.heap[b]? = some (.cells #[p, u] 225 (0, 0))) (h4 : w.ownsRow B 5 1 v n xs) (hn : n = l.length) (hx : xs = Lib.byteCells l) :
    Bld (w.setCell ⟨b, 1, none⟩ v) B b l := by
  subst hn hx
  refine ⟨hb, p, v, .inr hp, by simp [World.setCell, Array.getElem?_modify, h3], ?_⟩
  refine h4.kept (row := some b) ⟨rfl, rfl, rfl, by simp [World.setCell], fun k _ hk => Below.heap_setCell _ _ _ _ (fun e => hk (by simp [e]))⟩ (.inr fun e => ?_)
  have := (h4.lt b e).1
  omega

set_option maxHeartbeats 2000000 in
set_option maxRecDepth 100000 in
theorem bld_WriteByte (B b : Nat) (l : List UInt8) (c : UInt8) (w : World) (h : Bld w B b l) (hlen : l.length ≤ 1073741824) (hBw : B ≤ w.heap.size) :
    Calls Tryd.prog 168 #[.pointer (some ⟨b, 0, none⟩), .int .u8 (c.toNat : Int)] w fun e w' => e = .returned .nilIface ∧ Bld w' B b (l ++ [c]) ∧ ButB B b w w' := by
  obtain ⟨i0, hi, hz0, hz1, hz2⟩ := info_parts bld_byte
  have hbB := h.1
  go_enter Tryd.func168, Tryd.ntmps168
  go_wp2_with fail
  refine (bld_check B b l _ h).mono ?_
  rintro e w1 ⟨rfl, hb1, v, hbk, hown⟩
  have c0 : w1.cell? ⟨b, 0, none⟩ = some (.pointer (some ⟨b, 0, none⟩)) := by rw [Lib.cell_of_heap hbk]; rfl
  have c1 : w1.cell? ⟨b, 1, none⟩ = some v := by rw [Lib.cell_of_heap hbk]; rfl
  have hsz1 := hb1.size
  go_wp2_with (at_builtin; refine wpList_append_own _ rfl _ _ 23 rfl B 5 i0 (.int .u8 0) 1 1 Tryd.underlying23 hi hz0 hz1 hz2 rfl (by decide) _ _ _ rfl (hown.alloc _) ⟨w1.heap.size, 0, none⟩ 1 1 [.int .u8 (c.toNat : Int)] rfl rfl ?c1 ?c2 ?c3 ?c4 ?c5 ?_)
  case c1 =>
    intro j u hj
    match j, hj with
    | 0, hj => simp at hj; subst hj; simp [Addr.add]
  case c2 => intro u hu; simp at hu; subst hu; rfl
  case c3 => unfold maxLen; omega
  case c4 => omega
  case c5 => simp; omega
  intro v' w2 hown' hgrow _
  have hlt : b < w1.heap.size := lt_of_block hbk
  have hne : v.ownBlock ≠ some b := fun e => by have := (hown.lt b e).1; omega
  have hb2 : w2.heap[b]? = some (.cells #[.pointer (some ⟨b, 0, none⟩), v] 225 (0, 0)) := by
    rw [hgrow.block b (by simp; omega) (fun e => hne e.symm), Lib.alloc_old w1 _ b hlt]
    exact hbk
  have d0 : w2.cell? ⟨b, 0, none⟩ = some (.pointer (some ⟨b, 0, none⟩)) := by rw [Lib.cell_of_heap hb2]; rfl
  have d1 : w2.cell? ⟨b, 1, none⟩ = some v := by rw [Lib.cell_of_heap hb2]; rfl
  have f1 : w2.frozen? ⟨b, 1, none⟩ = false := Lib.frozen_of_heap hb2 1
  obtain ⟨g, cap, rfl⟩ : ∃ g cap, v' = .slice (some ⟨g, 0, none⟩) (l.length + 1) cap := by
    rcases hown'.2 with ⟨_, h0⟩ | ⟨g, cap, cur, hv, _⟩
    · omega
    · exact ⟨g, cap, hv⟩
  have hb12 : Below B w1 w2 := ((Below.refl B w1).alloc (by omega) _).grown hgrow (by simp; omega) (fun k hk => (hown.lt k hk).1)
  have hbe := ((hb1.trans (ButB.of_below hb12)).setCell 1 (.slice (some ⟨g, 0, none⟩) (l.length + 1) cap))
  have hput := bld_put (l := l ++ [c]) hbB rfl hb2 hown' (by simp) (by unfold Lib.byteCells; simp)
  clear hb12 hown' hown hgrow hb1
  go_wp2
  go_ret
  exact ⟨rfl, hput, hbe⟩


theorem bld_String (B b : Nat) (l : List UInt8) (w : World) (h : Bld w B b l) (hBw : B ≤ w.heap.size) :
    Calls Tryd.prog 167 #[.pointer (some ⟨b, 0, none⟩)] w fun e w' => e = .returned (.string ⟨l.toArray⟩) ∧ Below b w w' := by
  obtain ⟨h1, p, v, h2, h3, h4⟩ := h
  have hne : v.ownBlock ≠ some b := fun e => by have := (h4.lt b e).1; omega
  have hw : w.ownsRow b 5 1 v (Lib.byteCells l).length (Lib.byteCells l) := by rw [Lib.byteCells_length]; exact ownsRow_base h4 (Nat.le_of_lt h1)
  have hi : Lib.IsBuilder 225 5 b b (Lib.byteCells l) w := by
    rcases h2 with rfl | rfl
    · exact .inl ⟨Nat.le_refl _, v, h3, hw, hne⟩
    · exact .inr ⟨Nat.le_refl _, v, h3, hw, hne⟩
  exact Tryd.Builder_String_any b b l w hi (by omega)
end Go.Proofs.YteabhblbefglpaaDoor

/- percent.Right, Decode, Normal, Plain, written. -/
namespace Go.Proofs.YteabhblbefglpaaDoor
open Go.RowKit


/-- A variable in block b holds bytes of the call's own, from B on. -/
def VarB (w : World) (B b : Nat) (l : List UInt8) : Prop := b < B ∧ ∃ v, w.heap[b]? = some (.cells #[v] 23 (0, 0)) ∧ OwnB w B v l
theorem VarB.below {w w' : World} {B b : Nat} {l : List UInt8} (h : VarB w B b l) (hb : Below w.heap.size w w') : VarB w' B b l := by
  obtain ⟨h1, v, h2, h3⟩ := h
  exact ⟨h1, v, (hb.block b (lt_of_block h2)).trans h2, h3.below hb⟩
theorem OwnB.lt {w : World} {base : Nat} {v : Value} {l : List UInt8} (h : OwnB w base v l) (k : Nat) (hk : v.ownBlock = some k) : base ≤ k ∧ k < w.heap.size := World.ownsRow.lt h k hk
theorem OwnB.setOther {w : World} {B b : Nat} {v : Value} {l : List UInt8} (h : OwnB w B v l) (hb : b < B) (j : Nat) (u : Value) : OwnB (w.setCell ⟨b, j, none⟩ u) B v l := by
  unfold OwnB
  refine World.ownsRow.kept (row := some b) h ⟨rfl, rfl, rfl, by simp [World.setCell], fun k _ hk => Below.heap_setCell _ _ _ _ (fun e => hk (by simp [e]))⟩ (.inr fun e => ?_)
  have := (h.lt b e).1
  omega
set_option maxHeartbeats 1600000 in
theorem decode_fn (B b : Nat) (l : List UInt8) (c : UInt8) (esc : Bool) (w : World) (h : VarB w B b l) (hl : l.length ≤ 268435456) (hB : B ≤ w.heap.size) :
    Calls Tryd.prog 156 #[.int .u8 (c.toNat : Int), .bool esc, .pointer (some ⟨b, 0, none⟩)] w fun e w' => e = .returned (.tuple #[]) ∧ VarB w' B b (l ++ [c]) ∧ ButB B b w w' := by
  obtain ⟨h1, v, h2, h3⟩ := h
  have hlt := lt_of_block h2
  have c0 : w.cell? ⟨b, 0, none⟩ = some v := by rw [cell_of_row w b 0 _ _ _ h2]; rfl
  go_enter Tryd.func156, Tryd.ntmps156
  have hbf : Below w.heap.size w (w.alloc (.cells #[byteV c] 5)) := (Below.refl _ _).alloc (Nat.le_refl _) _
  have hown2 := h3.below hbf
  have hy : BytesSl (w.alloc (.cells #[byteV c] 5)) (.slice (some ⟨w.heap.size, 0, none⟩) 1 1) ⟨#[c]⟩ := BytesSl.lit w [c] _ 1 rfl rfl (by simp)
  go_wp2_with (at_builtin; refine wpList_app_bytes rfl _ _ rfl B _ _ rfl hown2 _ ⟨#[c]⟩ rfl hy (by show l.length + 1 ≤ _; omega) (by simp; omega) ?_)
  intro v3 w3 hown3 hgr
  have hne : v.ownBlock ≠ some b := fun e => by have := (h3.lt b e).1; omega
  have hb3 : w3.heap[b]? = some (.cells #[v] 23 (0, 0)) := by
    have hbf' : Below w.heap.size w (w.alloc (.cells #[.int .u8 (c.toNat : Int)] 5)) := hbf
    rw [hgr.block b (by simp; omega) (fun e => hne e.symm), hbf'.block b hlt]
    exact h2
  have d0 : w3.cell? ⟨b, 0, none⟩ = some v := by rw [cell_of_row w3 b 0 _ _ _ hb3]; rfl
  have f0 : w3.frozen? ⟨b, 0, none⟩ = false := by simp [World.frozen?, hb3]
  have hbe : ButB B b w (w3.setCell ⟨b, 0, none⟩ v3) := (ButB.of_below ((hbf.mono hB).grown hgr (by simp; omega) (fun k hk => (h3.lt k hk).1))).setCell 0 v3
  have hown4 := hown3.setOther h1 0 v3
  have hcell : (w3.setCell ⟨b, 0, none⟩ v3).heap[b]? = some (.cells #[v3] 23 (0, 0)) := by simp [World.setCell, Array.getElem?_modify, hb3]
  obtain ⟨a3, n3, c3, e3⟩ : ∃ a n c, v3 = .slice a n c := by
    rcases hown3.shape with ⟨_, e⟩ | ⟨g, cap, e, _⟩
    · exact ⟨_, _, _, e⟩
    · exact ⟨_, _, _, e⟩
  subst e3
  clear hown3 hgr hown2 hy hbf
  go_wp2_with fail
  go_end0
  exact ⟨rfl, ⟨h1, _, hcell, hown4⟩, hbe⟩

def bytesT (s : ByteArray) : List UInt8 := (told s).1.map (·.1)
def DecodePost (s : ByteArray) (w : World) (e : Ending) (w' : World) : Prop := Below w.heap.size w w' ∧ (((told s).2 = none ∧ ∃ v, e = .returned (.tuple #[v, .nilIface]) ∧ OwnB w' w.heap.size v (bytesT s)) ∨ (∃ i, (told s).2 = some i ∧ ∃ v, e = .returned (.tuple #[.slice none 0 0, v]) ∧ IsFault w' v 11 i))
set_option maxHeartbeats 1600000 in
theorem percent_Decode (s : ByteArray) (w : World) (hs : s.size ≤ 16777216) : Calls Tryd.prog 126 #[.string s] w (DecodePost s w) := by
  have hnew : (w.alloc (.cells #[.slice none 0 0] 23)).heap[w.heap.size]? = some (.cells #[.slice none 0 0] 23 (0, 0)) := heap_alloc_new w _
  have hE := each_Decode w.heap.size s hs (fun L wr => VarB wr (w.heap.size + 1) w.heap.size (L.map (·.1)) ∧ ButB (w.heap.size + 1) w.heap.size (w.alloc (.cells #[.slice none 0 0] 23)) wr)
    (fun _ _ _ h hb => ⟨h.1.below hb, h.2.trans (ButB.of_below (hb.mono (by have := h.2.size; simpa using this)))⟩)
    (fun L c esc wr h hL => (decode_fn _ _ _ c esc wr h.1 (by simp; omega) (by have := h.2.size; simpa using this)).mono fun _ _ ⟨a, b, d⟩ => ⟨a, by simpa using b, h.2.trans d⟩)
    (w.alloc (.cells #[.slice none 0 0] 23)) ⟨⟨by omega, _, hnew, OwnB.nil _ _⟩, ButB.refl _ _ _⟩
  have HE := Lib.hid hE
  clear hE hnew
  go_enter Tryd.func126, Tryd.ntmps126
  go_wp2_with fail
  refine HE.out.mono ?_
  rintro e w1 ⟨⟨hv, hbu⟩, h⟩
  obtain ⟨_, v, h2, h3⟩ := hv
  have hb : Below w.heap.size w w1 := ((Below.refl w.heap.size w).alloc (Nat.le_refl _) _).trans (hbu.below (Nat.le_refl _) (by omega))
  have c0 : w1.cell? ⟨w.heap.size, 0, none⟩ = some v := by rw [cell_of_row w1 w.heap.size 0 _ _ _ h2]; rfl
  have hown : OwnB w1 w.heap.size v (bytesT s) := h3.base' (by omega)
  have HO := Lib.hid hown
  clear h2 h3 hbu hown
  rcases h with ⟨hn, rfl⟩ | ⟨i, hi, u, rfl, hu⟩
  · have HN := Lib.hid hn
    clear hn
    go_wp2_with fail
    go_ret2
    exact ⟨hb, .inl ⟨HN.out, v, rfl, HO.out⟩⟩
  · obtain ⟨q, rfl⟩ := hu.ne_nil
    have HN := Lib.hid hi
    clear hi
    go_wp2_with fail
    go_ret2
    exact ⟨hb, .inr ⟨i, HN.out, _, rfl, hu⟩⟩

end Go.Proofs.YteabhblbefglpaaDoor

/- Queries' items: plain facts. -/
namespace Go.Proofs.YteabhblbefglpaaDoor
open Go.RowKit

def okS (l : List UInt8) : Bool := (chrs (ofL l)).2.isNone
/-- The item of a part, or the error's kind and place. -/
def itemP (p : ByteArray) : Except (Nat × Nat) It :=
  match (told (cutN 61 p)).2 with
  | some i => .error (11, i)
  | none => match (told (cutV 61 p)).2 with
    | some i => .error (11, (cutN 61 p).size + 1 + i)
    | none => if okS (bytesT (cutN 61 p)) = true ∧ okS (bytesT (cutV 61 p)) = true then .ok ⟨ofL (bytesT (cutN 61 p)), ofL (bytesT (cutV 61 p)), cutH 61 p⟩ else .error (12, 0)
theorem itemP_bad1 {p : ByteArray} {i : Nat} (h : (told (cutN 61 p)).2 = some i) : itemP p = .error (11, i) := by unfold itemP; rw [h]
theorem itemP_bad2 {p : ByteArray} {i : Nat} (h0 : (told (cutN 61 p)).2 = none) (h : (told (cutV 61 p)).2 = some i) : itemP p = .error (11, (cutN 61 p).size + 1 + i) := by unfold itemP; rw [h0, h]
theorem itemP_utf {p : ByteArray} (h0 : (told (cutN 61 p)).2 = none) (h1 : (told (cutV 61 p)).2 = none) (h : ¬ (okS (bytesT (cutN 61 p)) = true ∧ okS (bytesT (cutV 61 p)) = true)) : itemP p = .error (12, 0) := by unfold itemP; rw [h0, h1]; exact if_neg h
theorem itemP_ok {p : ByteArray} (h0 : (told (cutN 61 p)).2 = none) (h1 : (told (cutV 61 p)).2 = none) (h : okS (bytesT (cutN 61 p)) = true ∧ okS (bytesT (cutV 61 p)) = true) : itemP p = .ok ⟨ofL (bytesT (cutN 61 p)), ofL (bytesT (cutV 61 p)), cutH 61 p⟩ := by unfold itemP; rw [h0, h1]; exact if_pos h
theorem itemP_kind {p : ByteArray} {k i : Nat} (h : itemP p = .error (k, i)) : k = 11 ∨ k = 12 := by
  unfold itemP at h
  split at h
  · cases h; exact .inl rfl
  · split at h
    · cases h; exact .inl rfl
    · split at h
      · cases h
      · cases h; exact .inr rfl

/-- What a part of a query gives. -/
def stepQ : StepG := fun p full => if p.size = 0 then none else if full = true then some (.error (15, 0)) else some (itemP p)
theorem stepQ_right : RightG stepQ where
  kind := by
    intro p b k i h
    unfold stepQ at h
    split at h
    · cases h
    · split at h
      · cases h; decide
      · have := itemP_kind (Option.some.inj h); omega
  none := by
    intro p b b' h
    unfold stepQ at h ⊢
    split at h
    · next h0 => rw [if_pos h0]
    · split at h <;> cases h
  full := by
    intro p x h
    unfold stepQ at h
    split at h
    · cases h
    · cases h
theorem stepQ_empty {p : ByteArray} {b : Bool} (h : p.size = 0) : stepQ p b = none := by unfold stepQ; rw [if_pos h]
theorem stepQ_many {p : ByteArray} (h : p.size ≠ 0) : stepQ p true = some (.error (15, 0)) := by unfold stepQ; rw [if_neg h, if_pos rfl]
theorem stepQ_item {p : ByteArray} (h : p.size ≠ 0) : stepQ p false = some (itemP p) := by unfold stepQ; rw [if_neg h, if_neg (by decide)]
def itemsQ (s : ByteArray) : List It × Nat × Nat := goG stepQ 256 (partsB 38 s) 0 []
end Go.Proofs.YteabhblbefglpaaDoor

/- A call's own bytes, as a string. -/
namespace Go.Proofs.YteabhblbefglpaaDoor
open Go.RowKit

theorem BytesSl.conv {w : World} {a : Option Addr} {len cap : Nat} {s : ByteArray} (h : BytesSl w (.slice a len cap) s) : (convert 23 9 (.slice a len cap)).run Tryd.prog w = .ok (.string s) w := by
  rcases h with ⟨h0, a', cap', e⟩ | ⟨b, off, cap', e, h1, h2, h3, h4⟩
  · cases e
    have hs : s = ⟨#[]⟩ := by
      apply ByteArray.ext
      apply Array.eq_empty_of_size_eq_zero
      exact h0
    subst hs
    cases a with
    | none =>
      exact run_convert_bytes_nil w 23 5 Tryd.underlying23 Tryd.underlying5 0 cap 9 Tryd.underlying9
    | some ad =>
      have := run_convert_bytes_back (P := Tryd.prog) w 23 9 5 ad cap [] Tryd.underlying23 Tryd.underlying5 Tryd.underlying9 (fun j hj => by simp at hj)
      exact this
  · cases e
    have := run_convert_bytes_back (P := Tryd.prog) w 23 9 5 ⟨b, off, none⟩ cap s.data.toList Tryd.underlying23 Tryd.underlying5 Tryd.underlying9 (fun j hj => by
      have hj' : j < s.size := hj
      rw [Addr.add_lit, h4 j hj']
      simp [byteAt, List.getD, List.getElem?_eq_getElem hj])
    exact this
theorem OwnB.conv {w : World} {base : Nat} {v : Value} {l : List UInt8} (h : OwnB w base v l) : (convert 23 9 v).run Tryd.prog w = .ok (.string ⟨l.toArray⟩) w := by
  rcases h.shape with ⟨rfl, rfl⟩ | ⟨g, cap, rfl, h1, h2, h3, h4⟩
  · exact BytesSl.conv h.sl
  · exact BytesSl.conv h.sl
end Go.Proofs.YteabhblbefglpaaDoor
