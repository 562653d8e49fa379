/- The examples of chapter 10's statements. -/
import Derived.Test.YtbonnmkkacplgaaGreatDoorLabelJoinedM20
import Derived.Test.YtbonnmkkacplgaaGreatDoorLabelJoinedM19
import Derived.Test.YtbonnmkkacplgaaGreatDoorLabelJoinedM18
import Derived.Test.YtbonnmkkacplgaaGreatDoorLabelJoinedM12
import Derived.Test.YtbonnmkkacplgaaGreatDoorLabelJoinedM11
import Derived.Laws.OwnMore
import Derived.Deep.OwnRows
import Derived.Maps.AppendAt
import Derived.Test.YtbonnmkkacplgaaGreatDoorLabelJoinedM17
import Derived.Test.YtbonnmkkacplgaaGreatDoorShelf
import Derived.Shelf.Strings.SplitCore

namespace Go.Proofs.YtbonnmkkacplgaaGreatDoor
open Go.RowKit

def exN : ByteArray := ⟨#[66, 195, 188, 99, 104, 101, 114, 46, 69, 120, 97, 109, 112, 108, 101, 46]⟩
def exA : ByteArray := ⟨#[120, 110, 45, 45, 98, 99, 104, 101, 114, 45, 107, 118, 97, 46, 101, 120, 97, 109, 112, 108, 101]⟩
theorem sp10a : nameF (fieldsB (cutP exN)) 0 = .ok [⟨#[120, 110, 45, 45, 98, 99, 104, 101, 114, 45, 107, 118, 97]⟩, ⟨#[101, 120, 97, 109, 112, 108, 101]⟩] := by kernel_rfl
theorem sp10b : joinP [⟨#[120, 110, 45, 45, 98, 99, 104, 101, 114, 45, 107, 118, 97]⟩, ⟨#[101, 120, 97, 109, 112, 108, 101]⟩] = exA := by kernel_rfl
theorem sp10c : (cutP exN).size = 15 := by decide +kernel
theorem sp10 {r : Except (Nat × Nat) ByteArray} (h : NameIs exN r) : r = .ok exA := by
  cases h with
  | empty h => rw [sp10c] at h; cases h
  | many i h h1 h2 h3 =>
    have := (cutAt_le (cutP exN) 46 (i + 1)).1
    rw [sp10c] at h1
    omega
  | bad e h h1 h2 => rw [sp10a] at h2; cases h2
  | long xs h h1 h2 h3 =>
    rw [sp10a] at h2
    cases h2
    rw [sp10b] at h3
    exact absurd h3 (by decide)
  | ok xs h h1 h2 h3 =>
    rw [sp10a] at h2
    cases h2
    rw [sp10b]
theorem sp10d : rightL ⟨#[97, 45, 45, 98]⟩ = (0, 0) := by decide +kernel
theorem sp10e : rightL ⟨#[97, 98, 45, 45, 99]⟩ = (24, 0) := by decide +kernel
set_option maxHeartbeats 3200000 in
set_option maxRecDepth 100000 in
theorem speaks10 (w : World) (hg : Handle w) (hS : SpanLaid w) (hU : Utf8Laid w) : Calls Tryz.prog 9 #[] w fun e w' => e = .returned (.bool true) ∧ Below w.heap.size w w' := by
  have c1 : ∀ W, Handle W → SpanLaid W → Utf8Laid W → Calls Tryz.prog 14 #[.string exN] W fun e w' => e = .returned (.tuple #[.string exA, .nilIface]) ∧ Below W.heap.size W w' := fun W h1 h2 h3 =>
    (label_Name exN W h1 h2 h3 (by decide)).mono fun e w' ⟨hb, h⟩ => by
      rcases h with ⟨k, i, v, hN, _⟩ | ⟨t, hN, he⟩
      · have := sp10 hN; cases this
      · have := sp10 hN
        injection this with this
        subst this
        exact ⟨he, hb⟩
  have c2 : ∀ W, SpanLaid W → Calls Tryz.prog 13 #[.string ⟨#[97, 45, 45, 98]⟩] W fun e w' => e = .returned .nilIface ∧ Below W.heap.size W w' := fun W h =>
    (label_Right ⟨#[97, 45, 45, 98]⟩ W h (by decide)).mono fun e w' ⟨hb, v, he, hv⟩ => by
      rw [sp10d] at hv
      rcases hv with ⟨_, rfl⟩ | ⟨h0, _⟩
      · exact ⟨he, hb⟩
      · exact absurd rfl h0
  have c3 : ∀ W, SpanLaid W → Calls Tryz.prog 13 #[.string ⟨#[97, 98, 45, 45, 99]⟩] W fun e w' => ∃ v, e = .returned v ∧ IsFault w' v 24 0 ∧ Below W.heap.size W w' := fun W h =>
    (label_Right ⟨#[97, 98, 45, 45, 99]⟩ W h (by decide)).mono fun e w' ⟨hb, v, he, hv⟩ => by
      rw [sp10e] at hv
      rcases hv with ⟨h0, _⟩ | ⟨_, hv⟩
      · cases h0
      · exact ⟨v, he, hv, hb⟩
  have C1 := Lib.hid c1
  have C2 := Lib.hid c2
  have C3 := Lib.hid c3
  clear c1 c2 c3
  have e1 : (exA.toList == [120, 110, 45, 45, 98, 99, 104, 101, 114, 45, 107, 118, 97, 46, 101, 120, 97, 109, 112, 108, 101]) = true := by decide +kernel
  go_enter Tryz.func9, Tryz.ntmps9
  go_wp2_with fail
  refine (C1.out _ hg hS hU).mono ?_
  rintro e w1 ⟨rfl, hb1⟩
  have hS1 := hS.below hb1
  go_wp2_with fail
  refine (C2.out _ hS1).mono ?_
  rintro e w2 ⟨rfl, hb2⟩
  have hS2 := hS1.below hb2
  have hb12 := Bt hb1 hb2
  go_wp2_with fail
  refine (C3.out _ hS2).mono ?_
  rintro e w3 ⟨v, rfl, hv, hb3⟩
  have hb13 := Bt hb12 hb3
  have HV := Lib.hid hv
  obtain ⟨p, rfl⟩ := hv.ne_nil
  clear hv
  go_wp2_with fail
  refine (fault_Has _ _ _ _ _ HV.out).mono ?_
  rintro e w4 ⟨rfl, rfl⟩
  have e4 : isKind 24 24 = true := rfl
  go_wp2_with fail
  go_ret
  exact ⟨rfl, hb13⟩
end Go.Proofs.YtbonnmkkacplgaaGreatDoor

/- The reference's Fields of chapter 02. -/
namespace Go.Proofs.YtbonnmkkacplgaaGreatDoor
open Go.RowKit

def RFieldsPost (s : ByteArray) (mark : UInt8) (most : Nat) (w : World) (e : Ending) (w' : World) : Prop :=
  Below w.heap.size w w' ∧
  ((∃ v, e = .returned (.tuple #[v, .int .i64 0, .int .i64 0]) ∧ (cutAt s mark s.size).1.length < most ∧
      w'.ownsRow w.heap.size 9 1 v ((cutAt s mark s.size).1.length + 1) (((cutAt s mark s.size).1 ++ [s.extract (cutAt s mark s.size).2 s.size]).map strV)) ∨
   (∃ i : Nat, e = .returned (.tuple #[.slice none 0 0, .int .i64 15, .int .i64 i]) ∧ i < s.size ∧ byteAt s i = mark ∧ (cutAt s mark (i + 1)).1.length = most))
theorem ext_snoc {s : ByteArray} {a k : Nat} (h : k < s.size) (ha : a ≤ k) : s.extract a k ++ ofL [byteAt s k] = s.extract a (k + 1) := by
  rw [← extract_one h]
  rw [ByteArray.extract_append_extract]
  congr 1
  · omega
  · omega
theorem ext_nil (s : ByteArray) (a : Nat) : s.extract a a = ⟨#[]⟩ := by
  apply ByteArray.ext
  apply Array.ext'
  rw [Lib.extract_data]
  simp
set_option maxHeartbeats 3200000 in
set_option maxRecDepth 100000 in
theorem ref_Fields (s : ByteArray) (mark : UInt8) (most : Nat) (w : World) (hs : s.size ≤ 16777216) (hm : 1 ≤ most) (hm2 : most ≤ 16777216) :
    Calls Tryz.prog 23 #[.string s, .int .u8 (mark.toNat : Int), .int .i64 (most : Int)] w (RFieldsPost s mark most w) := by
  obtain ⟨i0, hi, hz0, hz1, hz2⟩ := info_parts info_string
  have hmI : ¬ (most : Int) < 1 := by omega
  go_enter Tryz.func23, Tryz.ntmps23
  go_wp2_with fail
  have hcnt := cutAt_le s mark
  have HCNT := Lib.hid hcnt
  clear hcnt
  go_loopw [9, 10, 11] (fun v p i wr => ∃ k : Nat, k ≤ s.size ∧ i = .int .i64 k ∧ p = .string (s.extract (cutAt s mark k).2 k) ∧ (cutAt s mark k).1.length < most ∧
      wr.ownsRow w.heap.size 9 1 v (cutAt s mark k).1.length ((cutAt s mark k).1.map strV) ∧ Below w.heap.size w wr)
    (fun _ _ i _ => s.size - (intOf i).toNat)
  case atStart => exact ⟨0, Nat.zero_le _, rfl, by show _ = Value.string (s.extract 0 0); rw [ext_nil], by simp [cutAt]; omega, World.ownsRow_made (base := w.heap.size) w #[] 0 (Nat.le_refl _) (by unfold maxLen; omega) rfl, (Below.refl _ _).alloc (Nat.le_refl _) _⟩
  case round =>
    obtain ⟨k, hk, rfl, rfl, hlen, hown, hbr⟩ := hrel
    have hc := HCNT.out k
    have hesz : (s.extract (cutAt s mark k).2 k).size ≤ 16777216 := by rw [ByteArray.size_extract]; omega
    by_cases hlt : k < s.size
    · have hidx : s[k] = byteAt s k := by simp [byteAt, List.getD, hlt]; rfl
      have hltI : (k : Int) < (s.size : Int) := by omega
      by_cases hmk : byteAt s k = mark
      · have e1 := u8_eq hmk
        have hnx : cutAt s mark (k + 1) = ((cutAt s mark k).1 ++ [s.extract (cutAt s mark k).2 k], k + 1) := by rw [cutAt, if_pos hmk]
        have HNX := Lib.hid hnx
        have hmk' := Lib.hid hmk
        clear hnx hmk
        generalize cutAt s mark k = ck at *
        obtain ⟨l, f⟩ := ck
        simp only at hlen hown hc hesz HNX ⊢
        generalize s.extract f k = part at *
        go_wp2_with (at_builtin; refine wpList_append_own _ rfl _ _ 38 rfl w.heap.size 9 i0 (.string ByteArray.empty) 1 16 Tryz.underlying38 hi hz0 hz1 hz2 rfl (by decide) _ _ _ rfl (hown.alloc _) ⟨wr.heap.size, 0, none⟩ 1 1 [strV part] rfl rfl ?c1 ?c2 ?c3 ?c4 ?c5 ?_)
        case c1 =>
          intro j u hj
          match j, hj with
          | 0, hj => simp at hj; subst hj; simp [Addr.add, strV]
        case c2 => intro u hu; simp at hu; subst hu; rfl
        case c3 => unfold maxLen; omega
        case c4 => omega
        case c5 => have := hbr.size; simp; omega
        intro v1 w2 hown1 hg1 _
        have hbr2 : Below w.heap.size w w2 := below_app hbr hown (Nat.le_refl _) hg1
        obtain ⟨g, c2, rfl, hgB, hgl⟩ := ownsRow_form hown1 (by omega)
        clear hg1 hown hbr hidx
        by_cases hmo : l.length + 1 = most
        · have em : ((l.length : Int) + 1 == (most : Int)) = true := by rw [beq_iff_eq]; omega
          have HMO := Lib.hid hmo
          clear hmo
          go_wp2_with fail
          go_ret3
          exact ⟨hbr2, .inr ⟨k, rfl, hlt, hmk'.out, by rw [HNX.out]; simpa using HMO.out⟩⟩
        · have em : ((l.length : Int) + 1 == (most : Int)) = false := by rw [beq_eq_false_iff_ne]; omega
          go_wp2_with fail
          go_roundw
          case rel => exact ⟨k + 1, by omega, by go_num, by rw [HNX.out]; simp only [ext_nil], by rw [HNX.out]; simp; omega, by rw [HNX.out]; simpa using hown1, hbr2⟩
          case measure => simp [intOf]; omega
      · have e1 := u8_ne hmk
        have hnx : cutAt s mark (k + 1) = cutAt s mark k := by rw [cutAt, if_neg hmk]
        have hex := extract_one hlt
        have hsn := ext_snoc (a := (cutAt s mark k).2) hlt hc.2
        have HNX := Lib.hid hnx
        have HSN := Lib.hid hsn
        have hq1 : (ofL [byteAt s k]).size ≤ 1 := by rw [ofL_size]; exact Nat.le_refl _
        clear hnx hmk hsn
        generalize ofL [byteAt s k] = q at *
        go_wp2_with fail
        go_roundw
        case rel => exact ⟨k + 1, by omega, by go_num, by rw [HNX.out, ← HSN.out], by rw [HNX.out]; exact hlen, by rw [HNX.out]; exact hown, hbr⟩
        case measure => simp [intOf]; omega
    · obtain rfl : k = s.size := by omega
      have hlt2 := hown.lt
      generalize hpt : s.extract (cutAt s mark s.size).2 s.size = part at *
      have HPT := Lib.hid hpt
      clear hpt
      go_wp2_with (at_builtin; refine wpList_append_own _ rfl _ _ 38 rfl w.heap.size 9 i0 (.string ByteArray.empty) 1 16 Tryz.underlying38 hi hz0 hz1 hz2 rfl (by decide) _ _ _ rfl (hown.alloc _) ⟨wr.heap.size, 0, none⟩ 1 1 [strV part] rfl rfl ?c1 ?c2 ?c3 ?c4 ?c5 ?_)
      case c1 =>
        intro j u hj
        match j, hj with
        | 0, hj => simp at hj; subst hj; simp [Addr.add, strV]
      case c2 => intro u hu; simp at hu; subst hu; rfl
      case c3 => unfold maxLen; omega
      case c4 => omega
      case c5 => have := hbr.size; simp; omega
      intro v1 w2 hown1 hg1 _
      have hbr2 : Below w.heap.size w w2 := below_app hbr hown (Nat.le_refl _) hg1
      clear hg1 hlt2 hown hbr
      go_wp2_with fail
      go_ret3
      exact ⟨hbr2, .inl ⟨v1, rfl, hlen, by rw [HPT.out]; simpa using hown1⟩⟩
end Go.Proofs.YtbonnmkkacplgaaGreatDoor

/- Items, in memory. -/
namespace Go.Proofs.YtbonnmkkacplgaaGreatDoor
open Go.RowKit

structure It where
  name : ByteArray
  value : ByteArray
  has : Bool
deriving DecidableEq

def itemC (x : It) : List Value := [.string x.name, .string x.value, .bool x.has]
def itemsV (l : List It) : List Value := l.flatMap itemC
theorem itemsV_len (l : List It) : (itemsV l).length = l.length * 3 := by
  induction l with
  | nil => rfl
  | cons p l ih =>
    unfold itemsV at ih ⊢
    rw [List.flatMap_cons, List.length_append, ih, List.length_cons]
    show 3 + _ = _
    omega
theorem itemsV_app (a b : List It) : itemsV (a ++ b) = itemsV a ++ itemsV b := by unfold itemsV; exact List.flatMap_append
theorem itemsV_at {l : List It} {i : Nat} {p : It} (h : l[i]? = some p) (j : Nat) (hj : j < 3) : (itemsV l)[i * 3 + j]? = (itemC p)[j]? := by
  induction l generalizing i with
  | nil => simp at h
  | cons q l ih =>
    cases i with
    | zero =>
      simp at h; subst h
      show (itemC q ++ itemsV l)[0 * 3 + j]? = _
      rw [List.getElem?_append_left (by show _ < 3; omega)]
      congr 1; omega
    | succ i =>
      simp at h
      show (itemC q ++ itemsV l)[(i + 1) * 3 + j]? = _
      rw [List.getElem?_append_right (by show 3 ≤ _; omega), ← ih h]
      congr 1
      show (i + 1) * 3 + j - 3 = _
      omega
theorem itemC_one (p : It) : ∀ u ∈ itemC p, u.oneCell' = true := by
  intro u hu
  unfold itemC at hu
  simp at hu
  rcases hu with rfl | rfl | rfl <;> rfl

/-- A row that is read, beside a row of the call's own. -/
def Beside (pa : Option Addr) (v : Value) : Prop := ∀ b, pa = some ⟨b, 0, none⟩ → v.ownBlock ≠ some b
theorem RowSl.grown {w w2 : World} {pa : Option Addr} {l : List Value} {v : Value} (h : RowSl w pa l) (hg : w.grownBy w2 v.ownBlock) (hne : Beside pa v) : RowSl w2 pa l := by
  intro i x hx
  obtain ⟨b, e, hlt, h1⟩ := h i x hx
  have hk := hg.block b hlt (fun e' => hne b e e'.symm)
  exact ⟨b, e, Nat.lt_of_lt_of_le hlt hg.size, (World.cell?_of_block hk).trans h1⟩
theorem Beside.at {N : Nat} {pa : Option Addr} {v v' : Value} (h : Beside pa v) (hat : v'.ownBlock = v.ownBlock ∨ v'.ownBlock = some N) (hlt : ∀ b, pa = some ⟨b, 0, none⟩ → b < N) : Beside pa v' := by
  intro b hb e
  rcases hat with hat | hat
  · exact h b hb (hat ▸ e)
  · have := hlt b hb
    rw [hat] at e
    injection e with e
    omega
/-- A slice of items. -/
def ItemsSl (w : World) (a : Option Addr) (l : List It) : Prop := ∀ (i : Nat) (p : It), l[i]? = some p → ∃ b off, a = some ⟨b, off, none⟩ ∧ b < w.heap.size ∧
  w.cell? ⟨b, off + i * 3, none⟩ = some (.string p.name) ∧ w.cell? ⟨b, off + i * 3 + 1, none⟩ = some (.string p.value) ∧ w.cell? ⟨b, off + i * 3 + 2, none⟩ = some (.bool p.has)
theorem ItemsSl.below {w w' : World} {a : Option Addr} {l : List It} (h : ItemsSl w a l) (hb : Below w.heap.size w w') : ItemsSl w' a l := by
  intro i p hp
  obtain ⟨b, off, e, hlt, h1, h2, h3⟩ := h i p hp
  exact ⟨b, off, e, Nat.lt_of_lt_of_le hlt hb.size, (hb.cell (p := ⟨b, off + i * 3, none⟩) hlt).trans h1, (hb.cell (p := ⟨b, off + i * 3 + 1, none⟩) hlt).trans h2, (hb.cell (p := ⟨b, off + i * 3 + 2, none⟩) hlt).trans h3⟩
/-- Own items as a slice: where they lie. -/
def ItemsOwn (w : World) (a : Option Addr) (l : List It) : Prop := ∀ (i : Nat) (p : It), l[i]? = some p → ∃ b, a = some ⟨b, 0, none⟩ ∧ b < w.heap.size ∧
  w.cell? ⟨b, i * 3, none⟩ = some (.string p.name) ∧ w.cell? ⟨b, i * 3 + 1, none⟩ = some (.string p.value) ∧ w.cell? ⟨b, i * 3 + 2, none⟩ = some (.bool p.has)
theorem ItemsOwn.below {w w' : World} {a : Option Addr} {l : List It} (h : ItemsOwn w a l) (hb : Below w.heap.size w w') : ItemsOwn w' a l := by
  intro i p hp
  obtain ⟨b, e, hlt, h1, h2, h3⟩ := h i p hp
  exact ⟨b, e, Nat.lt_of_lt_of_le hlt hb.size, (hb.cell (p := ⟨b, i * 3, none⟩) hlt).trans h1, (hb.cell (p := ⟨b, i * 3 + 1, none⟩) hlt).trans h2, (hb.cell (p := ⟨b, i * 3 + 2, none⟩) hlt).trans h3⟩
theorem ItemsOwn.items {w : World} {a : Option Addr} {l : List It} (h : ItemsOwn w a l) : ItemsSl w a l := by
  intro i p hp
  obtain ⟨b, e, hlt, h1, h2, h3⟩ := h i p hp
  exact ⟨b, 0, e, hlt, by rw [Nat.zero_add]; exact h1, by rw [Nat.zero_add]; exact h2, by rw [Nat.zero_add]; exact h3⟩
end Go.Proofs.YtbonnmkkacplgaaGreatDoor

/- Items out of parts, one behind the other, as long as nothing is wrong: plain facts. -/
namespace Go.Proofs.YtbonnmkkacplgaaGreatDoor

/-- What a part gives (are there as many items as may be?): nothing, an error's kind and place, or an item. -/
abbrev StepG := ByteArray → Bool → Option (Except (Nat × Nat) It)
structure RightG (g : StepG) : Prop where
  kind : ∀ p b k i, g p b = some (.error (k, i)) → k ≠ 0
  none : ∀ p b b', g p b = none → g p b' = none
  full : ∀ p x, g p true ≠ some (.ok x)
section
variable (g : StepG) (most : Nat)
/-- Parts' items behind those that there are, the error's kind, its place. -/
def goG : List ByteArray → Nat → List It → List It × Nat × Nat
  | [], _, acc => (acc, 0, 0)
  | p :: ps, at_, acc => match g p (decide (acc.length = most)) with
    | none => goG ps (at_ + p.size + 1) acc
    | some (.error (k, i)) => ([], k, at_ + i)
    | some (.ok x) => goG ps (at_ + p.size + 1) (acc ++ [x])
variable {g most} {p : ByteArray} {ps : List ByteArray} {at_ k i : Nat} {acc : List It} {x : It}
theorem goG_nil : goG g most [] at_ acc = (acc, 0, 0) := rfl
theorem goG_none (h : g p (decide (acc.length = most)) = none) : goG g most (p :: ps) at_ acc = goG g most ps (at_ + p.size + 1) acc := by rw [goG, h]
theorem goG_bad (h : g p (decide (acc.length = most)) = some (.error (k, i))) : goG g most (p :: ps) at_ acc = ([], k, at_ + i) := by rw [goG, h]
theorem goG_ok (h : g p (decide (acc.length = most)) = some (.ok x)) : goG g most (p :: ps) at_ acc = goG g most ps (at_ + p.size + 1) (acc ++ [x]) := by rw [goG, h]
end
/-- A part's three ways. -/
theorem goG_ways (g : StepG) (most : Nat) (p : ByteArray) (acc : List It) : g p (decide (acc.length = most)) = none ∨ (∃ k i, g p (decide (acc.length = most)) = some (.error (k, i))) ∨ ∃ x, g p (decide (acc.length = most)) = some (.ok x) := by
  cases g p (decide (acc.length = most)) with
  | none => exact .inl rfl
  | some r => cases r with
    | error e => exact .inr (.inl ⟨e.1, e.2, rfl⟩)
    | ok x => exact .inr (.inr ⟨x, rfl⟩)
section
variable {g : StepG} {most : Nat} (hg : RightG g)
include hg
theorem goG_len : ∀ (ps : List ByteArray) (at_ : Nat) (acc : List It), acc.length ≤ most → (goG g most ps at_ acc).1.length ≤ most
  | [], _, acc, h => h
  | p :: ps, at_, acc, h => by
    rcases goG_ways g most p acc with h1 | ⟨k, i, h1⟩ | ⟨x, h1⟩
    · rw [goG_none h1]; exact goG_len ps _ _ h
    · rw [goG_bad h1]; simp
    · rw [goG_ok h1]
      refine goG_len ps _ _ ?_
      have : acc.length ≠ most := fun e => by rw [decide_eq_true e] at h1; exact hg.full p x h1
      simp; omega
omit hg in
theorem goG_empty : ∀ (ps : List ByteArray) (at_ : Nat) (acc : List It), (goG g most ps at_ acc).2.1 ≠ 0 → (goG g most ps at_ acc).1 = []
  | [], _, acc, h => absurd rfl h
  | p :: ps, at_, acc, h => by
    rcases goG_ways g most p acc with h1 | ⟨k, i, h1⟩ | ⟨x, h1⟩
    · rw [goG_none h1] at h ⊢; exact goG_empty ps _ _ h
    · rw [goG_bad h1]
    · rw [goG_ok h1] at h ⊢; exact goG_empty ps _ _ h
theorem goG_zero : ∀ (ps : List ByteArray) (at_ : Nat) (acc : List It), (goG g most ps at_ acc).2.1 = 0 → (goG g most ps at_ acc).2.2 = 0
  | [], _, acc, h => rfl
  | p :: ps, at_, acc, h => by
    rcases goG_ways g most p acc with h1 | ⟨k, i, h1⟩ | ⟨x, h1⟩
    · rw [goG_none h1] at h ⊢; exact goG_zero ps _ _ h
    · rw [goG_bad h1] at h; exact absurd h (hg.kind _ _ _ _ h1)
    · rw [goG_ok h1] at h ⊢; exact goG_zero ps _ _ h
theorem goG_grow : ∀ (ps : List ByteArray) (at_ : Nat) (acc : List It), (goG g most ps at_ acc).2.1 = 0 → ∃ l, (goG g most ps at_ acc).1 = acc ++ l
  | [], _, acc, _ => ⟨[], by rw [goG_nil]; simp⟩
  | p :: ps, at_, acc, h => by
    rcases goG_ways g most p acc with h1 | ⟨k, i, h1⟩ | ⟨x, h1⟩
    · rw [goG_none h1] at h ⊢; exact goG_grow ps _ _ h
    · rw [goG_bad h1] at h; exact absurd h (hg.kind _ _ _ _ h1)
    · rw [goG_ok h1] at h ⊢
      obtain ⟨l, e⟩ := goG_grow ps _ _ h
      exact ⟨x :: l, by rw [e]; simp⟩
theorem goG_app : ∀ (ps qs : List ByteArray) (at_ : Nat) (acc : List It), goG g most (ps ++ qs) at_ acc = if (goG g most ps at_ acc).2.1 = 0 then goG g most qs (at_ + (ps.map fun p => p.size + 1).sum) (goG g most ps at_ acc).1 else goG g most ps at_ acc
  | [], qs, at_, acc => by simp [goG_nil]
  | p :: ps, qs, at_, acc => by
    rw [List.cons_append]
    have e : at_ + ((p :: ps).map fun p => p.size + 1).sum = at_ + p.size + 1 + (ps.map fun p => p.size + 1).sum := by rw [List.map_cons, List.sum_cons]; omega
    rcases goG_ways g most p acc with h1 | ⟨k, i, h1⟩ | ⟨x, h1⟩
    · rw [goG_none h1, goG_none h1, goG_app ps qs, e]
    · rw [goG_bad h1, goG_bad h1, if_neg (hg.kind _ _ _ _ h1)]
    · rw [goG_ok h1, goG_ok h1, goG_app ps qs, e]
/-- From another place, behind other items: the same items. -/
theorem goG_move : ∀ (ps : List ByteArray) (a1 a2 : Nat) (x acc : List It), (goG g most ps a1 acc).2.1 = 0 → x.length + (goG g most ps a1 acc).1.length ≤ most → goG g most ps a2 (x ++ acc) = (x ++ (goG g most ps a1 acc).1, 0, 0)
  | [], a1, a2, x, acc, _, _ => rfl
  | p :: ps, a1, a2, x, acc, h, h2 => by
    rcases goG_ways g most p acc with h1 | ⟨k, i, h1⟩ | ⟨y, h1⟩
    · rw [goG_none h1] at h h2 ⊢
      rw [goG_none (hg.none _ _ _ h1)]
      exact goG_move ps _ _ x acc h h2
    · rw [goG_bad h1] at h; exact absurd h (hg.kind _ _ _ _ h1)
    · rw [goG_ok h1] at h h2 ⊢
      obtain ⟨l, e⟩ := goG_grow hg ps _ _ h
      have hl := congrArg List.length e
      simp only [List.length_append, List.length_cons, List.length_nil] at hl
      have h3 : acc.length ≠ most := fun e => by rw [decide_eq_true e] at h1; exact hg.full p y h1
      have h4 : (x ++ acc).length ≠ most := by simp; omega
      rw [decide_eq_false h3] at h1
      have h5 : g p (decide ((x ++ acc).length = most)) = some (.ok y) := by rw [decide_eq_false h4]; exact h1
      rw [goG_ok h5, List.append_assoc]
      exact goG_move ps _ _ x (acc ++ [y]) h h2
end
/-- The parts of a text between marks. -/
def partsB (c : UInt8) (s : ByteArray) : List ByteArray := (splitL c s.data.toList).map ofL
theorem partsB_app (c : UInt8) (s t : ByteArray) : partsB c (s ++ ofL [c] ++ t) = partsB c s ++ partsB c t := by
  unfold partsB
  rw [← List.map_append, ← splitL_app c t.data.toList s.data.toList.length s.data.toList (Nat.le_refl _)]
  congr 2
  rw [ByteArray.data_append, ByteArray.data_append]
  simp [ofL]
section
variable {g : StepG} {most : Nat} (hg : RightG g)
include hg
theorem goG_both (c : UInt8) (s t : ByteArray) (h1 : (goG g most (partsB c s) 0 []).2.1 = 0) (h2 : (goG g most (partsB c t) 0 []).2.1 = 0) (h3 : (goG g most (partsB c s) 0 []).1.length + (goG g most (partsB c t) 0 []).1.length ≤ most) :
    goG g most (partsB c (s ++ ofL [c] ++ t)) 0 [] = ((goG g most (partsB c s) 0 []).1 ++ (goG g most (partsB c t) 0 []).1, 0, 0) := by
  rw [partsB_app, goG_app hg, if_pos h1]
  have := goG_move hg (partsB c t) 0 (0 + ((partsB c s).map fun p => p.size + 1).sum) (goG g most (partsB c s) 0 []).1 [] h2 h3
  rw [List.append_nil] at this
  exact this
theorem goG_first (c : UInt8) (s t : ByteArray) (h1 : (goG g most (partsB c s) 0 []).2.1 ≠ 0) : goG g most (partsB c (s ++ ofL [c] ++ t)) 0 [] = goG g most (partsB c s) 0 [] := by
  rw [partsB_app, goG_app hg, if_neg h1]
end
end Go.Proofs.YtbonnmkkacplgaaGreatDoor

/- strings.Cut and strings.Split at a mark of one byte. -/
namespace Go.Proofs.YtbonnmkkacplgaaGreatDoor
open Go.RowKit

theorem cut_full (s : ByteArray) (n : Nat) (h : n = s.size) : s.extract 0 n = s := by
  subst h
  apply ByteArray.ext
  apply Array.ext'
  rw [Lib.extract_data]
  have hl : s.data.toList.length = s.size := rfl
  rw [List.drop_zero, Nat.sub_zero, ← hl, List.take_length]
theorem split_pieces (c : UInt8) (s : ByteArray) : Lib.splitB ⟨#[c]⟩ 0 (Lib.countB s ⟨#[c]⟩) s = partsB c s := by
  have h := splitB_is c s
  unfold partsB
  rw [← h, List.map_map]
  conv => lhs; rw [← List.map_id (Lib.splitB _ _ _ _)]
  apply List.map_congr_left
  intro x _
  show x = ofL x.data.toList
  exact (ofL_list x).symm
theorem info_str : (Tryz.prog.info? 9).map (fun i => (i.zero, i.size, i.bytes)) = some (some (.string ByteArray.empty), 1, 16) := by kernel_rfl
theorem gen_Split1 (s : ByteArray) (c : UInt8) (w : World) (hs : s.size ≤ 16777216) : Calls Tryz.prog 82 #[.string s, .string ⟨#[c]⟩, .int .i64 0, .int .i64 (-1)] w fun e w' =>
    e = .returned (.slice (some ⟨w.heap.size, 0, none⟩) (partsB c s).length (partsB c s).length) ∧ w' = w.alloc (.cells ((partsB c s).map Value.string).toArray 9) := by
  have h1 : 1 ≤ (⟨#[c]⟩ : ByteArray).size := Nat.le_refl _
  have hle := Lib.countB_le ⟨#[c]⟩ h1 s.size s (Nat.le_refl _)
  have hlen := Lib.splitB_all ⟨#[c]⟩ h1 0 _ s rfl
  have hx : ∀ (x : ByteArray), Lib.indexB x ⟨#[c]⟩ = Lib.indexByte x.data.toList c := fun x => Lib.index_one x.data.toList c
  have hcount : Lib.countB s ⟨#[c]⟩ = Lib.countByte s.data.toList c := Lib.count_one c s.data.toList
  have h := Any.strings_genSplit_core Tryz.lays221 info_str s ⟨#[c]⟩ 0 (-1) (Lib.countB s ⟨#[c]⟩ + 1) w (by omega) h1 (Nat.zero_le _)
    (fun x cs _ => by rw [hx]; exact Tryz.strings_Index_one x c _) (by rw [hcount]; exact Tryz.strings_Count_one s c w) (by decide) (by decide) (by rw [if_pos (by decide)]; omega)
  rw [Nat.add_sub_cancel, hlen] at h
  have e2 : Lib.cellsOf (Lib.splitB ⟨#[c]⟩ 0 (Lib.countB s ⟨#[c]⟩) s) (Lib.countB s ⟨#[c]⟩ + 1) = ((Lib.splitB ⟨#[c]⟩ 0 (Lib.countB s ⟨#[c]⟩) s).map Value.string).toArray := by rw [← hlen]; exact Lib.cellsOf_full _
  rw [e2] at h
  rw [split_pieces] at h hlen
  rw [← hlen] at h
  exact h
theorem strings_Split1 (s : ByteArray) (c : UInt8) (w : World) (hs : s.size ≤ 16777216) : Calls Tryz.prog 53 #[.string s, .string ⟨#[c]⟩] w fun e w' =>
    e = .returned (.slice (some ⟨w.heap.size, 0, none⟩) (partsB c s).length (partsB c s).length) ∧ w.alloc (.cells ((partsB c s).map Value.string).toArray 9) = w' := by
  have cS := Lib.hid (fun W => gen_Split1 s c W hs)
  generalize partsB c s = ps at *
  go_enter Tryz.func53, Tryz.ntmps53
  go_wp2_with fail
  refine (cS.out _).mono ?_
  rintro e w1 ⟨rfl, rfl⟩
  go_wp2_with fail
  go_ret
  exact ⟨rfl, rfl⟩
theorem sum_mem : ∀ (l : List Nat) (x : Nat), x ∈ l → x ≤ l.sum
  | y :: l, x, h => by
    rcases List.mem_cons.1 h with rfl | h
    · rw [List.sum_cons]; omega
    · have := sum_mem l x h; rw [List.sum_cons]; omega
/-- The parts lie in a row. -/
theorem parts_cells (w : World) (ps : List ByteArray) : ∀ i p, ps[i]? = some p → (w.alloc (.cells (ps.map Value.string).toArray 9)).cell? ⟨w.heap.size, i, none⟩ = some (.string p) := by
  intro i p h
  rw [World.cell?_alloc_at _ _ _ _ rfl]
  simp [h]
theorem partsB_sizes (c : UInt8) (s : ByteArray) : ∀ p ∈ partsB c s, p.size ≤ s.size := by
  intro p hp
  unfold partsB at hp
  obtain ⟨l, hl, rfl⟩ := List.mem_map.1 hp
  have h := splitL_len c _ s.data.toList (Nat.le_refl _)
  have hs : s.data.toList.length = s.size := rfl
  have h2 : l.length ≤ ((splitL c s.data.toList).map List.length).sum := sum_mem _ _ (List.mem_map.2 ⟨l, hl, rfl⟩)
  have h3 : 1 ≤ (splitL c s.data.toList).length := List.length_pos_iff.2 (splitL_ne c _)
  rw [ofL_size]
  omega
theorem partsB_len (c : UInt8) (s : ByteArray) : (partsB c s).length ≤ s.size + 1 := by
  have h := splitL_len c _ s.data.toList (Nat.le_refl _)
  have hs : s.data.toList.length = s.size := rfl
  unfold partsB
  rw [List.length_map]
  omega
end Go.Proofs.YtbonnmkkacplgaaGreatDoor
