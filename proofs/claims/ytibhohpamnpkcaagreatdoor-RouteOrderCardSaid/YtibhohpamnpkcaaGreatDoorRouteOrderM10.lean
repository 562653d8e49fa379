/- utf.Chars: all characters of bytes. -/
import Derived.Test.YtibhohpamnpkcaaGreatDoorRouteOrderM5
import Derived.Test.YtibhohpamnpkcaaGreatDoorRouteOrderM9
import Derived.Test.YtibhohpamnpkcaaGreatDoorRouteOrderM7
import Derived.Test.YtibhohpamnpkcaaGreatDoorRouteOrderM1
import Derived.Test.YtibhohpamnpkcaaGreatDoorRouteOrderM4
import Derived.Laws.OwnMore
import Derived.Deep.OwnRows
import Derived.Maps.AppendAt
import Derived.Lib.SlicesS
import Derived.Test.YtibhohpamnpkcaaGreatDoorShelf
import Derived.Lib.Join
import Derived.Test.YtibhohpamnpkcaaGreatDoorRouteOrderM2

namespace Go.Proofs.YtibhohpamnpkcaaGreatDoor
open Go.RowKit

def CharsPost (s : ByteArray) (w : World) (e : Ending) (w' : World) : Prop :=
  Below w.heap.size w w' ∧ (((chrs s).2 = none ∧ ∃ v, e = .returned (.tuple #[v, .nilIface]) ∧ w'.ownsRow w.heap.size 3 1 v (chrs s).1.length ((chrs s).1.map intV)) ∨
    (∃ i, (chrs s).2 = some i ∧ ∃ v, e = .returned (.tuple #[.slice none 0 0, v]) ∧ IsFault w' v 12 i))

set_option maxHeartbeats 1600000 in
set_option maxRecDepth 100000 in
theorem utf_Chars (v : Value) (s : ByteArray) (w : World) (hU : Utf8Laid w) (hs : s.size ≤ 16777216) (hv : BytesSl w v s) :
    Calls Tryz.prog 119 #[v] w (CharsPost s w) := by
  rcases hv with ⟨h0, a, cap, rfl⟩ | ⟨b, off, cap, rfl, hc, hcm, hbs, hp⟩
  · have hz := Lib.hid ((Reach.zero s).done (by omega))
    clear h0
    go_enter Tryz.func119, Tryz.ntmps119
    go_wp2_with fail
    refine wp_loop_rounds 1 ?_
    rw [rounds_succ]
    go_wp2_with fail
    go_ret2
    exact ⟨Below.refl _ _, .inl ⟨by rw [hz.out], _, rfl, by rw [hz.out]; exact World.ownsRow_nil _ _ _ _⟩⟩
  · obtain ⟨i0, hi, hz0, hz1, hz2⟩ := info_parts info_int
    unfold maxLen at hcm
    go_enter Tryz.func119, Tryz.ntmps119
    go_wp2_with fail
    go_loopw [4, 5] (fun v a wr => ∃ (i : Nat) (l : List Nat), i ≤ s.size ∧ a = .int .i64 i ∧ Reach s l i ∧ wr.ownsRow w.heap.size 3 1 v l.length (l.map intV) ∧ Below w.heap.size w wr)
      (fun _ a _ => s.size - (intOf a).toNat)
    case atStart => exact ⟨0, [], Nat.zero_le _, rfl, Reach.zero s, World.ownsRow_nil _ _ _ _, Below.refl _ _⟩
    case round =>
      obtain ⟨i, l, hil, rfl, hr, hown, hbr⟩ := hrel
      have hll : l.length ≤ i := by obtain ⟨_, _, h, _⟩ := hr; exact h
      have HR := Lib.hid hr
      clear hr
      by_cases hlt : i < s.size
      · obtain ⟨hd1, hd2, hd3, hd4⟩ := decB_bounds s i hlt
        clear hd4
        go_wp2_with fail
        refine (utf_Next s i b off cap _ (hU.below hbr) hlt hc hcm (hp.below hbr hbs)).mono ?_
        rintro e w2 ⟨hb2, h⟩
        have hown2 := ownsRow_below hown hb2
        have hbr2 := Bt hbr hb2
        clear hown hbr hb2
        rcases h with ⟨hok, rfl⟩ | ⟨hok, v, rfl, hv⟩
        · have hst := HR.out.step hlt hok
          generalize (decB s i).1 = c at *
          generalize (decB s i).2 = n at *
          have HST := Lib.hid hst
          clear hst hok
          go_wp2_with (at_builtin; refine wpList_append_own _ rfl _ _ 166 rfl w.heap.size 3 i0 (.int .i64 0) 1 8 Tryz.underlying166 hi hz0 hz1 hz2 rfl (by decide) _ _ _ rfl (hown2.alloc _) ⟨w2.heap.size, 0, none⟩ 1 1 [intV c] rfl rfl ?c1 ?c2 ?c3 ?c4 ?c5 ?_)
          case c1 =>
            intro j u hj
            match j, hj with
            | 0, hj => simp at hj; subst hj; simp [Addr.add, intV]
          case c2 => intro u hu; simp at hu; subst hu; rfl
          case c3 => unfold maxLen; omega
          case c4 => omega
          case c5 => have := hbr2.size; simp; omega
          intro v1 w3 hown3 hg3 _
          have hbr3 := below_app hbr2 hown2 (Nat.le_refl _) hg3
          clear hg3 hown2 hbr2
          go_wp2_with fail
          go_roundw
          case rel => exact ⟨i + n, l ++ [c], by omega, by go_num, HST.out, by simpa using hown3, hbr3⟩
          case measure => simp [intOf]; omega
        · obtain ⟨p, rfl⟩ := hv.ne_nil
          have hb := Lib.hid (HR.out.bad hlt hok)
          clear hok
          go_wp2_with fail
          go_ret2
          exact ⟨hbr2, .inr ⟨i, by rw [hb.out], _, rfl, hv⟩⟩
      · have hb := Lib.hid (HR.out.done hlt)
        obtain rfl : i = s.size := by omega
        go_wp2_with fail
        go_ret2
        exact ⟨hbr, .inl ⟨by rw [hb.out], _, rfl, by rw [hb.out]; exact hown⟩⟩

def ValidPost (s : ByteArray) (w : World) (e : Ending) (w' : World) : Prop :=
  Below w.heap.size w w' ∧ (((chrs s).2 = none ∧ e = .returned .nilIface) ∨ (∃ i, (chrs s).2 = some i ∧ ∃ v, e = .returned v ∧ IsFault w' v 12 i))
set_option maxHeartbeats 800000 in
theorem utf_Valid (v : Value) (s : ByteArray) (w : World) (hU : Utf8Laid w) (hs : s.size ≤ 16777216) (hv : BytesSl w v s) :
    Calls Tryz.prog 87 #[v] w (ValidPost s w) := by
  go_enter Tryz.func87, Tryz.ntmps87
  go_wp2_with fail
  refine (utf_Chars v s _ hU hs hv).mono ?_
  rintro e w2 ⟨hb2, h⟩
  rcases h with ⟨hn, v2, rfl, _⟩ | ⟨i, hi, v2, rfl, hv2⟩
  · have HN := Lib.hid hn
    clear hn
    go_wp2_with fail
    go_ret
    exact ⟨hb2, .inl ⟨HN.out, rfl⟩⟩
  · have HN := Lib.hid hi
    clear hi
    go_wp2_with fail
    go_ret
    exact ⟨hb2, .inr ⟨i, HN.out, _, rfl, hv2⟩⟩
end Go.Proofs.YtibhohpamnpkcaaGreatDoor

/- Plain facts: the characters of two rows of bytes, one behind the other. -/
namespace Go.Proofs.YtibhohpamnpkcaaGreatDoor

theorem guessZ_agree {k : Nat} (hk1 : 1 ≤ k) (hk4 : k ≤ 4) {b0 b1 b2 b3 c0 c1 c2 c3 : Nat} (h0 : b0 = c0) (h1 : 2 ≤ k → b1 = c1) (h2 : 3 ≤ k → b2 = c2) (h3 : 4 ≤ k → b3 = c3) :
    guessZ k b0 b1 b2 b3 = guessZ k c0 c1 c2 c3 ∧ firstN k b0 b1 b2 b3 = firstN k c0 c1 c2 c3 := by
  have hc : k = 1 ∨ k = 2 ∨ k = 3 ∨ k = 4 := by omega
  subst h0
  rcases hc with rfl | rfl | rfl | rfl
  · exact ⟨by rw [show ((1 : Nat) : Int) = 1 from rfl, guess1, guess1], rfl⟩
  · rw [h1 (by omega)]
    exact ⟨by rw [show ((2 : Nat) : Int) = 2 from rfl, guess2, guess2], rfl⟩
  · rw [h1 (by omega), h2 (by omega)]
    exact ⟨by rw [show ((3 : Nat) : Int) = 3 from rfl, guess3, guess3], rfl⟩
  · rw [h1 (by omega), h2 (by omega), h3 (by omega)]
    exact ⟨rfl, rfl⟩

/-- What stands whole ahead of the end is told alike when more bytes follow. -/
theorem decB_more {s t : ByteArray} {i i' : Nat} (hi : i < s.size) (hle : s.size - i ≤ t.size - i') (ho : okB s i = true) (hb : ∀ j, j < s.size - i → byteAt t (i' + j) = byteAt s (i + j)) : decB t i' = decB s i ∧ okB t i' = true := by
  have ho' : decB s i ≠ (65533, 1) := of_decide_eq_true ho
  obtain ⟨k, hk1, hk4, hkn, hr, hp⟩ := dec_hit (n := s.size - i) (by omega) (byteAt s i).toNat_lt (byteAt s (i + 1)).toNat_lt (byteAt s (i + 2)).toNat_lt (byteAt s (i + 3)).toNat_lt ho'
  obtain ⟨e1, _⟩ := hit_dec hk1 hk4 hkn (byteAt s i).toNat_lt (byteAt s (i + 1)).toNat_lt (byteAt s (i + 2)).toNat_lt (byteAt s (i + 3)).toNat_lt hr hp
  have g := guessZ_agree hk1 hk4 (b0 := (byteAt t i').toNat) (b1 := (byteAt t (i' + 1)).toNat) (b2 := (byteAt t (i' + 2)).toNat) (b3 := (byteAt t (i' + 3)).toNat)
    (c0 := (byteAt s i).toNat) (c1 := (byteAt s (i + 1)).toNat) (c2 := (byteAt s (i + 2)).toNat) (c3 := (byteAt s (i + 3)).toNat)
    (by have := hb 0 (by omega); simpa using congrArg UInt8.toNat this) (fun h => congrArg UInt8.toNat (hb 1 (by omega))) (fun h => congrArg UInt8.toNat (hb 2 (by omega))) (fun h => congrArg UInt8.toNat (hb 3 (by omega)))
  rw [← g.1] at hr hp
  rw [← g.2] at hp
  obtain ⟨e2, n2⟩ := hit_dec (n := t.size - i') hk1 hk4 (by omega) (byteAt t i').toNat_lt (byteAt t (i' + 1)).toNat_lt (byteAt t (i' + 2)).toNat_lt (byteAt t (i' + 3)).toNat_lt hr hp
  have e3 : decB t i' = decB s i := by
    unfold decB
    rw [e1, e2, g.1]
  refine ⟨e3, ?_⟩
  unfold okB
  rw [e3]
  exact ho

theorem byteAt_app (a b : ByteArray) (j : Nat) : byteAt (a ++ b) j = if j < a.size then byteAt a j else byteAt b (j - a.size) := by
  have e : (a ++ b).data.toList = a.data.toList ++ b.data.toList := by rw [ByteArray.data_append]; simp
  have ha : a.data.toList.length = a.size := rfl
  unfold byteAt
  rw [e]
  simp only [List.getD, List.getElem?_append, ha]
  split <;> rfl
theorem size_app (a b : ByteArray) : (a ++ b).size = a.size + b.size := ByteArray.size_append

/-- What begins in the second is told as there. -/
theorem decB_second (a b : ByteArray) (j : Nat) : decB (a ++ b) (a.size + j) = decB b j := by
  have hb : ∀ m, byteAt (a ++ b) (a.size + m) = byteAt b m := fun m => by
    rw [byteAt_app, if_neg (by omega)]
    congr 1; omega
  unfold decB
  rw [size_app, hb, Nat.add_assoc, hb, Nat.add_assoc, hb, Nat.add_assoc, hb]
  congr 1; omega

theorem chrs_first (a b : ByteArray) : ∀ (f i : Nat) (l : List Nat), a.size - i ≤ f → i ≤ a.size → (chrsFrom a f i).2 = none → Reach (a ++ b) l i → Reach (a ++ b) (l ++ (chrsFrom a f i).1) a.size := by
  intro f
  induction f with
  | zero =>
    intro i l hf hi _ hr
    obtain rfl : i = a.size := by omega
    simpa [chrsFrom] using hr
  | succ f ih =>
    intro i l hf hi hn hr
    unfold chrsFrom at hn ⊢
    by_cases hlt : i < a.size
    · rw [if_pos hlt] at hn ⊢
      by_cases ho : okB a i = true
      · rw [if_pos ho] at hn ⊢
        have hd := decB_bounds a i hlt
        have hm := decB_more (s := a) (t := a ++ b) (i := i) (i' := i) hlt (by rw [size_app]; omega) ho (fun j hj => by rw [byteAt_app, if_pos (by omega)])
        have hs := hr.step (by rw [size_app]; omega) hm.2
        rw [hm.1] at hs
        have := ih (i + (decB a i).2) _ (by omega) (by omega) hn hs
        simpa using this
      · rw [if_neg ho] at hn
        simp at hn
    · rw [if_neg hlt]
      obtain rfl : i = a.size := by omega
      simpa using hr

theorem chrs_second (a b : ByteArray) : ∀ (f j : Nat) (l : List Nat), b.size - j ≤ f → j ≤ b.size → Reach (a ++ b) l (a.size + j) → chrs (a ++ b) = (l ++ (chrsFrom b f j).1, (chrsFrom b f j).2.map (a.size + ·)) := by
  intro f
  induction f with
  | zero =>
    intro j l hf hj hr
    obtain rfl : j = b.size := by omega
    rw [hr.done (by rw [size_app]; omega)]
    simp [chrsFrom]
  | succ f ih =>
    intro j l hf hj hr
    unfold chrsFrom
    by_cases hlt : j < b.size
    · rw [if_pos hlt]
      have hd := decB_bounds b j hlt
      have he := decB_second a b j
      have heo : okB (a ++ b) (a.size + j) = okB b j := by unfold okB; rw [he]
      by_cases ho : okB b j = true
      · rw [if_pos ho]
        have hs := hr.step (by rw [size_app]; omega) (heo.trans ho)
        rw [he, Nat.add_assoc] at hs
        have := ih (j + (decB b j).2) _ (by omega) (by omega) hs
        simpa using this
      · rw [if_neg ho, hr.bad (by rw [size_app]; omega) (by rw [heo]; exact Bool.not_eq_true _ ▸ ho)]
        simp
    · rw [if_neg hlt]
      obtain rfl : j = b.size := by omega
      rw [hr.done (by rw [size_app]; omega)]
      simp

theorem chrs_join (a b : ByteArray) (ha : (chrs a).2 = none) : chrs (a ++ b) = ((chrs a).1 ++ (chrs b).1, (chrs b).2.map (a.size + ·)) := by
  have h1 := chrs_first a b a.size 0 [] (by omega) (by omega) ha (Reach.zero _)
  have h2 := chrs_second a b b.size 0 _ (by omega) (by omega) h1
  rw [h2]
  simp [chrs]
theorem chrs_len (s : ByteArray) : (chrs s).1.length ≤ s.size := by
  have : ∀ f i, i ≤ s.size → (chrsFrom s f i).1.length ≤ s.size - i := by
    intro f
    induction f with
    | zero => intro i _; simp [chrsFrom]
    | succ f ih =>
      intro i hi
      unfold chrsFrom
      split
      · split
        · have hd := decB_bounds s i (by assumption)
          have := ih (i + (decB s i).2) (by omega)
          simp only [List.length_cons]; omega
        · simp
      · simp
  simpa [chrs] using this s.size 0 (by omega)
end Go.Proofs.YtibhohpamnpkcaaGreatDoor

/- label.ASCII. -/
namespace Go.Proofs.YtibhohpamnpkcaaGreatDoor
open Go.RowKit

/-- The place of the first character that may not stand in a label. -/
def badC : List Nat → Nat → Option Nat
  | [], _ => none
  | c :: l, at_ => if mayB c = true then badC l (at_ + (putL c).length) else some at_
theorem badC_hit {c : Nat} {l : List Nat} {at_ : Nat} (h : mayB c = false) : badC (c :: l) at_ = some at_ := by rw [badC, if_neg (by rw [h]; decide)]
theorem badC_next {c : Nat} {l : List Nat} {at_ : Nat} (h : mayB c = true) : badC (c :: l) at_ = badC l (at_ + (putL c).length) := by rw [badC, if_pos h]
/-- A label of characters from 128 on too. -/
def asciiW (l : List Nat) : Except (Nat × Nat) ByteArray :=
  match badC l 0 with
  | some i => .error (11, i)
  | none => if marksL l = true then if 256 < l.length ∨ 59 < (encN l).length then .error (14, 63) else .ok ⟨(xnL ++ encN l).toArray⟩ else .error (24, 0)
theorem asciiW_bad {l : List Nat} {i : Nat} (h : badC l 0 = some i) : asciiW l = .error (11, i) := by unfold asciiW; rw [h]
theorem asciiW_marks {l : List Nat} (h : badC l 0 = none) (h2 : marksL l = false) : asciiW l = .error (24, 0) := by unfold asciiW; rw [h]; exact if_neg (by rw [h2]; decide)
theorem asciiW_long {l : List Nat} (h : badC l 0 = none) (h2 : marksL l = true) (h3 : 256 < l.length ∨ 59 < (encN l).length) : asciiW l = .error (14, 63) := by unfold asciiW; rw [h]; dsimp only; rw [if_pos h2, if_pos h3]
theorem asciiW_ok {l : List Nat} (h : badC l 0 = none) (h2 : marksL l = true) (h3 : ¬ (256 < l.length ∨ 59 < (encN l).length)) : asciiW l = .ok ⟨(xnL ++ encN l).toArray⟩ := by unfold asciiW; rw [h]; dsimp only; rw [if_pos h2, if_neg h3]
/-- A text's characters; none, where it isn't right. -/
def lowC (s : ByteArray) : List Nat := if (chrs s).2.isSome = true then [] else (chrs s).1
theorem lowC_ok {s : ByteArray} (h : (chrs s).2 = none) : lowC s = (chrs s).1 := by unfold lowC; rw [h]; rfl
theorem lowC_bad {s : ByteArray} {i : Nat} (h : (chrs s).2 = some i) : lowC s = [] := by unfold lowC; rw [h]; rfl
theorem lowC_right (s : ByteArray) : ∀ c ∈ lowC s, rightB (c : Int) = true := by
  intro c hc
  unfold lowC at hc
  split at hc
  · cases hc
  · exact (rightC_iff c).1 (right_chrs s c hc)
theorem lowC_len (s : ByteArray) : (lowC s).length ≤ s.size := by
  unfold lowC
  split
  · exact Nat.zero_le _
  · exact chrs_len s
/-- A label's form of ASCII. -/
def asciiL (s : ByteArray) : Except (Nat × Nat) ByteArray :=
  match (chrs s).2 with
  | some i => .error (12, i)
  | none => if wideL (chrs s).1 = true then asciiW (lowC (lowerS s)) else if (rightL (lowerS s)).1 = 0 then .ok (lowerS s) else .error (rightL (lowerS s))
theorem asciiL_utf {s : ByteArray} {i : Nat} (h : (chrs s).2 = some i) : asciiL s = .error (12, i) := by unfold asciiL; rw [h]
theorem asciiL_wide {s : ByteArray} (h : (chrs s).2 = none) (h2 : wideL (chrs s).1 = true) : asciiL s = asciiW (lowC (lowerS s)) := by unfold asciiL; rw [h]; exact if_pos h2
theorem asciiL_low {s : ByteArray} (h : (chrs s).2 = none) (h2 : wideL (chrs s).1 = false) (h3 : (rightL (lowerS s)).1 = 0) : asciiL s = .ok (lowerS s) := by unfold asciiL; rw [h]; dsimp only; rw [if_neg (by rw [h2]; decide), if_pos h3]
theorem asciiL_err {s : ByteArray} (h : (chrs s).2 = none) (h2 : wideL (chrs s).1 = false) (h3 : (rightL (lowerS s)).1 ≠ 0) : asciiL s = .error (rightL (lowerS s)) := by unfold asciiL; rw [h]; dsimp only; rw [if_neg (by rw [h2]; decide), if_neg h3]
def AscPost (s : ByteArray) (w : World) (e : Ending) (w' : World) : Prop := Below w.heap.size w w' ∧
  ((∃ k i : Nat, ∃ v, asciiL s = .error (k, i) ∧ k ≠ 0 ∧ e = .returned (.tuple #[.string ⟨#[]⟩, v]) ∧ IsFault w' v k i) ∨ ∃ t, asciiL s = .ok t ∧ e = .returned (.tuple #[.string t, .nilIface]))
/-- utf.Chars, whatever it tells. -/
theorem chars_any {s : ByteArray} {w w' : World} {e : Ending} (h : CharsPost s w e w') : Below w.heap.size w w' ∧ ∃ v u, e = .returned (.tuple #[v, u]) ∧ OwnN w' w.heap.size v (lowC s) := by
  obtain ⟨hb, h⟩ := h
  rcases h with ⟨h1, v, rfl, hv⟩ | ⟨i, h1, v, rfl, _⟩
  · exact ⟨hb, v, _, rfl, by rw [lowC_ok h1]; exact hv⟩
  · exact ⟨hb, _, v, rfl, by rw [lowC_bad h1]; exact World.ownsRow_nil _ _ _ _⟩
theorem drop_getD {l : List Nat} {i : Nat} (h : i < l.length) : l.drop i = l.getD i 0 :: l.drop (i + 1) := by
  rw [List.drop_eq_getElem_cons h]; simp [List.getD, h]
theorem xn_app (l : List UInt8) : (⟨#[120, 110, 45, 45]⟩ : ByteArray) ++ ⟨l.toArray⟩ = ⟨(xnL ++ l).toArray⟩ := by
  apply ba_ext
  rw [data_append]
  rfl
end Go.Proofs.YtibhohpamnpkcaaGreatDoor

/- A slice of one-cell elements that is read as values. -/
namespace Go.Proofs.YtibhohpamnpkcaaGreatDoor
open Go.RowKit

/-- A slice of one-cell elements that reads as these values. -/
def RowSl (w : World) (a : Option Addr) (l : List Value) : Prop := ∀ i v, l[i]? = some v → ∃ b, a = some ⟨b, 0, none⟩ ∧ b < w.heap.size ∧ w.cell? ⟨b, i, none⟩ = some v
theorem row_sl {w : World} {base n : Nat} {e : TypeId} {v : Value} {l : List Value} (h : w.ownsRow base e 1 v n l) (hn : n = l.length) : ∃ a c, v = .slice a l.length c ∧ l.length ≤ c ∧ c ≤ maxLen ∧ RowSl w a l := by
  subst hn
  have h' := h
  rcases h.2 with ⟨e0, e1⟩ | ⟨g, cap, cur, e0, hg, hh, h1, h2, _⟩
  · refine ⟨none, 0, by rw [e0, e1], by omega, by unfold maxLen; omega, fun i c hc => ?_⟩
    have := (List.getElem?_eq_some_iff.1 hc).1
    omega
  · refine ⟨_, cap, e0, h1, h2, fun i c hc => ?_⟩
    have hlt := (List.getElem?_eq_some_iff.1 hc).1
    subst e0
    refine ⟨g, rfl, lt_of_block hh, ?_⟩
    rw [h'.cellAt i (by omega), hc]
theorem RowSl.below {w w' : World} {a : Option Addr} {l : List Value} (h : RowSl w a l) (hb : Below w.heap.size w w') : RowSl w' a l := by
  intro i v hv
  obtain ⟨b, e, hlt, h1⟩ := h i v hv
  exact ⟨b, e, Nat.lt_of_lt_of_le hlt hb.size, (hb.cell (p := ⟨b, i, none⟩) hlt).trans h1⟩
/-- .. where a newer row is written. -/
theorem RowSl.mid {w w1 w2 : World} {a : Option Addr} {l : List Value} {g : Nat} (h : RowSl w a l) (hb : Below w.heap.size w w1) (hg : w1.grownBy w2 (some g)) (hn : w.heap.size ≤ g) : RowSl w2 a l := by
  intro i v hv
  obtain ⟨b, e, hlt, h1⟩ := h i v hv
  have h2 := Nat.lt_of_lt_of_le hlt hb.size
  have hk := hg.block b h2 (fun e => by injection e with e; omega)
  exact ⟨b, e, Nat.lt_of_lt_of_le h2 hg.size, (World.cell?_of_block hk).trans ((hb.cell (p := ⟨b, i, none⟩) hlt).trans h1)⟩
end Go.Proofs.YtibhohpamnpkcaaGreatDoor

/- Rows of strings of a call's own; two rows of strings held against each other; is a string among them. -/
namespace Go.Proofs.YtibhohpamnpkcaaGreatDoor
open Go.RowKit

theorem info_strS : (Tryz.prog.info? 9).map (fun i => (i.zero, i.size, i.bytes)) = some (some (.string ByteArray.empty), 1, 16) := by kernel_rfl
def OwnS (w : World) (base : Nat) (v : Value) (l : List ByteArray) : Prop := w.ownsRow base 9 1 v l.length (l.map strV)
theorem OwnS.below {w w' : World} {base : Nat} {v : Value} {l : List ByteArray} (h : OwnS w base v l) (hb : Below w.heap.size w w') : OwnS w' base v l := ownsRow_below h hb
theorem OwnS.drewN {w : World} {base : Nat} {v : Value} {l : List ByteArray} (h : OwnS w base v l) (m : Nat) : OwnS (w.drewN m) base v l := h
theorem OwnS.nil (w : World) (base : Nat) : OwnS w base (.slice none 0 0) [] := World.ownsRow_nil _ _ _ _
theorem OwnS.lit0 (w : World) (base : Nat) (hb : base ≤ w.heap.size) : OwnS (w.alloc (.cells #[] 9)) base (.slice (some ⟨w.heap.size, 0, none⟩) 0 0) [] :=
  World.ownsRow_lit w #[] 0 hb (Nat.zero_le _) rfl
theorem OwnS.under {w0 w w' : World} {base : Nat} {v : Value} {l : List ByteArray} (h : OwnS w base v l) (hb : Below w0.heap.size w0 w) (hB : w0.heap.size ≤ base) (hg : w.grownBy w' v.ownBlock) : Below w0.heap.size w0 w' :=
  hb.grown hg hb.size (fun j hj => Nat.le_trans hB (World.ownsRow.lt h j hj).1)
theorem OwnS.sl {w : World} {base : Nat} {v : Value} {l : List ByteArray} (h : OwnS w base v l) : ∃ a c, v = .slice a l.length c ∧ l.length ≤ c ∧ c ≤ maxLen ∧ RowSl w a (l.map strV) := by
  have := row_sl h (by simp)
  simpa using this
theorem wpList_app_str {w : World} {ops : Array Oper} {rest : List Oper} {o : Oper} {a : Act} {Q : Exit → Act → World → Prop} (hgd : o.guard = none) (s x : Operand) (ho : o.op = .call { callee := .builtin .append, args := #[s, x], argTypes := #[98, 98] })
    (base : Nat) (v : Value) (l : List ByteArray) (hs : a.eval s = v) (hown : OwnS w base v l) (g c : Nat) (p : ByteArray) (hx : a.eval x = .slice (some ⟨g, 0, none⟩) 1 c) (hb : w.heap[g]? = some (.cells #[.string p] 9 (0, 0)))
    (hl : l.length ≤ 1073741824) (hbase : base ≤ w.heap.size)
    (h : ∀ v' w', OwnS w' base v' (l ++ [p]) → w.grownBy w' v.ownBlock → wpList Tryz.prog ops Q rest (a.put o.dst v') w') : wpList Tryz.prog ops Q (o :: rest) a w := by
  obtain ⟨i, hi, hz, hsize, hby⟩ := info_parts info_strS
  refine wpList_append_own _ hgd s x 98 ho base 9 i _ 1 16 Tryz.underlying98 hi hz hsize hby rfl (by decide) v _ _ hs hown _ 1 c [strV p] hx rfl ?_ ?_ (by unfold maxLen; omega) (by omega) hbase ?_
  · intro j u hj
    match j, hj with
    | 0, hj =>
      simp at hj; subst hj
      rw [Addr.add_lit, Nat.zero_add, cell_of_row w g 0 _ _ _ hb]
      rfl
  · intro u hu; simp at hu; subst hu; rfl
  · intro v' w' h1 h2 _
    refine h v' w' ?_ h2
    unfold OwnS
    rw [List.length_append, List.map_append]
    exact h1
theorem RowSl.strs {w : World} {a : Option Addr} {l : List ByteArray} (h : RowSl w a (l.map strV)) (hne : 0 < l.length) : ∃ b, a = some ⟨b, 0, none⟩ ∧ b < w.heap.size ∧ ∀ j, j < l.length → w.cell? ⟨b, 0 + j, none⟩ = some (.string (l.getD j ByteArray.empty)) := by
  obtain ⟨x, hx⟩ : ∃ x, l[0]? = some x := ⟨_, List.getElem?_eq_getElem hne⟩
  obtain ⟨b, rfl, hb, _⟩ := h 0 (strV x) (by rw [List.getElem?_map, hx]; rfl)
  refine ⟨b, rfl, hb, fun j hj => ?_⟩
  obtain ⟨b', e, _, hc⟩ := h j (strV l[j]) (by rw [List.getElem?_map, List.getElem?_eq_getElem hj]; rfl)
  cases e
  rw [Nat.zero_add, hc]
  simp [strV, List.getD, hj]
end Go.Proofs.YtibhohpamnpkcaaGreatDoor

/- Parts put together by a mark. -/
namespace Go.Proofs.YtibhohpamnpkcaaGreatDoor

def joinA (c : UInt8) : List (List UInt8) → List UInt8
  | [] => []
  | [p] => p
  | p :: q :: r => p ++ c :: joinA c (q :: r)
theorem joinA_lib (c : UInt8) : ∀ l, Lib.join l [c] = joinA c l := by
  intro l
  induction l with
  | nil => rfl
  | cons p l ih =>
    cases l with
    | nil => simp [Lib.join, joinA, List.intercalate]
    | cons q r =>
      have e : Lib.join (p :: q :: r) [c] = p ++ c :: Lib.join (q :: r) [c] := by simp [Lib.join, List.intercalate, List.intersperse]
      rw [e, ih]
      rfl
theorem joinA_snoc (c : UInt8) (p : List UInt8) : ∀ l, l ≠ [] → joinA c (l ++ [p]) = joinA c l ++ c :: p := by
  intro l
  induction l with
  | nil => intro h; exact absurd rfl h
  | cons q l ih =>
    intro _
    cases l with
    | nil => rfl
    | cons r l =>
      show q ++ c :: joinA c ((r :: l) ++ [p]) = q ++ c :: joinA c (r :: l) ++ c :: p
      rw [ih (by simp)]
      simp
theorem split_join (c : UInt8) : ∀ l : List (List UInt8), l ≠ [] → (∀ p ∈ l, ∀ x ∈ p, x ≠ c) → splitL c (joinA c l) = l := by
  intro l
  induction l with
  | nil => intro h; exact absurd rfl h
  | cons p l ih =>
    intro _ h
    cases l with
    | nil => exact splitL_none c p (h p (by simp))
    | cons q l =>
      show splitL c (p ++ c :: joinA c (q :: l)) = _
      rw [splitL_cut c _ p (h p (by simp)), ih (by simp) fun y hy => h y (by simp [hy])]
theorem joinA_nil {c : UInt8} {l : List (List UInt8)} (h : ∀ p ∈ l, p ≠ []) : joinA c l = [] ↔ l = [] := by
  cases l with
  | nil => exact ⟨fun _ => rfl, fun _ => rfl⟩
  | cons p l =>
    refine ⟨fun e => ?_, fun e => by cases e⟩
    cases l with
    | nil => exact absurd e (h p (by simp))
    | cons q l =>
      have e' : p ++ c :: joinA c (q :: l) = [] := e
      simp at e'
theorem joinA_len (c : UInt8) (m : Nat) : ∀ l : List (List UInt8), (∀ p ∈ l, p.length ≤ m) → (joinA c l).length ≤ (m + 1) * l.length := by
  intro l
  induction l with
  | nil => intro _; exact Nat.zero_le _
  | cons p l ih =>
    intro h
    have h1 := h p (by simp)
    have h2 := ih fun y hy => h y (by simp [hy])
    have e : (m + 1) * (p :: l).length = (m + 1) * l.length + (m + 1) := by rw [List.length_cons, Nat.mul_succ]
    rw [e]
    cases l with
    | nil => show p.length ≤ _; omega
    | cons q l =>
      show (p ++ c :: joinA c (q :: l)).length ≤ _
      rw [List.length_append, List.length_cons]
      omega
end Go.Proofs.YtibhohpamnpkcaaGreatDoor

/- strings.Join of any row. -/
namespace Go.Proofs.YtibhohpamnpkcaaGreatDoor
open Go.RowKit

theorem map_ofL (ps : List (List UInt8)) : (ps.map ofL).map (·.data.toList) = ps := by
  rw [List.map_map]
  conv => rhs; rw [← List.map_id ps]
  exact List.map_congr_left fun x _ => (by simp [ofL])
end Go.Proofs.YtibhohpamnpkcaaGreatDoor

/- fold.Fields: the parts of a text between marks. -/
namespace Go.Proofs.YtibhohpamnpkcaaGreatDoor
open Go.RowKit

theorem info_string : (Tryz.prog.info? 9).map (fun i => (i.zero, i.size, i.bytes)) = some (some (.string ByteArray.empty), 1, 16) := by kernel_rfl

/-- What has been collected after k bytes, and where the part that is open begins. -/
def cutAt (s : ByteArray) (mark : UInt8) : Nat → List ByteArray × Nat
  | 0 => ([], 0)
  | k + 1 => if byteAt s k = mark then ((cutAt s mark k).1 ++ [s.extract (cutAt s mark k).2 k], k + 1) else cutAt s mark k

theorem cutAt_le (s : ByteArray) (mark : UInt8) (k : Nat) : (cutAt s mark k).1.length ≤ k ∧ (cutAt s mark k).2 ≤ k := by
  induction k with
  | zero => simp [cutAt]
  | succ k ih =>
    unfold cutAt
    split
    · simp; omega
    · omega

theorem cutAt_mono (s : ByteArray) (mark : UInt8) {j k : Nat} (h : j ≤ k) : (cutAt s mark j).1.length ≤ (cutAt s mark k).1.length := by
  induction h with
  | refl => exact Nat.le_refl _
  | step _ ih =>
    refine Nat.le_trans ih ?_
    rw [cutAt]
    split
    · simp
    · exact Nat.le_refl _

def FieldsPost (s : ByteArray) (mark : UInt8) (most : Int) (w : World) (e : Ending) (w' : World) : Prop :=
  Below w.heap.size w w' ∧
  ((∃ v, e = .returned (.tuple #[v, .nilIface]) ∧ ((cutAt s mark s.size).1.length : Int) < most ∧
      w'.ownsRow w.heap.size 9 1 v ((cutAt s mark s.size).1.length + 1) (((cutAt s mark s.size).1 ++ [s.extract (cutAt s mark s.size).2 s.size]).map strV)) ∨
   (∃ (i : Nat) (v : Value), e = .returned (.tuple #[.slice none 0 0, v]) ∧ i < s.size ∧ byteAt s i = mark ∧ ((cutAt s mark (i + 1)).1.length : Int) = most ∧ IsFault w' v 15 i))

end Go.Proofs.YtibhohpamnpkcaaGreatDoor

/- The parts between marks, told from place to place, are those of the list that is cut. -/
namespace Go.Proofs.YtibhohpamnpkcaaGreatDoor

theorem ext_ofL (l : List UInt8) (i j : Nat) : (ofL l).extract i j = ofL ((l.drop i).take (j - i)) := by
  apply ByteArray.ext
  apply Array.ext'
  rw [Lib.extract_data]
  simp [ofL]
theorem ext_list (s : ByteArray) (i j : Nat) : s.extract i j = ofL ((s.data.toList.drop i).take (j - i)) := by
  conv => lhs; rw [← ofL_list s]
  exact ext_ofL _ i j
theorem cutAt_split (s : ByteArray) (c : UInt8) : ∀ k, k ≤ s.size → (cutAt s c k).2 ≤ k ∧ (∀ j, (cutAt s c k).2 ≤ j → j < k → byteAt s j ≠ c) ∧
    (splitL c s.data.toList).map ofL = (cutAt s c k).1 ++ (splitL c (s.data.toList.drop (cutAt s c k).2)).map ofL := by
  intro k
  have hl : s.data.toList.length = s.size := rfl
  induction k with
  | zero => intro _; simp [cutAt]
  | succ k ih =>
    intro hk
    obtain ⟨h1, h2, h3⟩ := ih (by omega)
    rw [cutAt]
    by_cases hc : byteAt s k = c
    · rw [if_pos hc]
      refine ⟨Nat.le_refl _, fun j hj1 hj2 => by simp only at hj1; omega, ?_⟩
      generalize (cutAt s c k).2 = a at *
      have e : s.data.toList.drop a = (s.data.toList.drop a).take (k - a) ++ c :: s.data.toList.drop (k + 1) := by
        have e1 : s.data.toList.drop a = (s.data.toList.drop a).take (k - a) ++ (s.data.toList.drop a).drop (k - a) := (List.take_append_drop _ _).symm
        rw [List.drop_drop, show a + (k - a) = k by omega, List.drop_eq_getElem_cons (i := k) (by omega)] at e1
        rw [e1]
        congr 2
        unfold byteAt at hc
        rw [List.getD, List.getElem?_eq_getElem (by omega)] at hc
        exact hc
      have hno : ∀ x ∈ (s.data.toList.drop a).take (k - a), x ≠ c := by
        intro x hx
        obtain ⟨i, hi, rfl⟩ := List.mem_iff_getElem.1 hx
        simp only [List.length_take, List.length_drop] at hi
        have := h2 (a + i) (by omega) (by omega)
        unfold byteAt at this
        rw [List.getD, List.getElem?_eq_getElem (by omega)] at this
        simpa using this
      rw [h3, e, splitL_cut c _ _ hno, ext_list]
      simp
    · rw [if_neg hc]
      refine ⟨by omega, fun j hj1 hj2 => ?_, h3⟩
      by_cases hjk : j = k
      · subst hjk; exact hc
      · exact h2 j hj1 (by omega)
theorem fields_split (s : ByteArray) (c : UInt8) : (cutAt s c s.size).1 ++ [s.extract (cutAt s c s.size).2 s.size] = (splitL c s.data.toList).map ofL := by
  have hl : s.data.toList.length = s.size := rfl
  obtain ⟨h1, h2, h3⟩ := cutAt_split s c s.size (Nat.le_refl _)
  rw [h3]
  have hno : ∀ x ∈ s.data.toList.drop (cutAt s c s.size).2, x ≠ c := by
    intro x hx
    obtain ⟨i, hi, rfl⟩ := List.mem_iff_getElem.1 hx
    simp only [List.length_drop] at hi
    have := h2 ((cutAt s c s.size).2 + i) (by omega) (by omega)
    unfold byteAt at this
    rw [List.getD, List.getElem?_eq_getElem (by omega)] at this
    simpa using this
  rw [splitL_none c _ hno, ext_list, List.take_of_length_le (by simp)]
  simp
end Go.Proofs.YtibhohpamnpkcaaGreatDoor

/- strings.TrimSuffix at a point, strings.LastIndexByte; quad.cut, and the reference's. -/
namespace Go.Proofs.YtibhohpamnpkcaaGreatDoor
open Go.RowKit

theorem byteAt_idx {s : ByteArray} {i : Nat} (h : i < s.size) : s[i] = byteAt s i := by simp [byteAt, List.getD, h]; rfl
theorem last_point {s : ByteArray} {n : Nat} (h : s.size = n + 1) : ((s.extract n s.size).toList == [46]) = decide (byteAt s n = 46) := by
  have e0 : ([46] : List UInt8) = (⟨#[46]⟩ : ByteArray).toList := by rw [ByteArray.toList_eq]
  rw [e0, str_eqB, h, extract_one (by omega), show (⟨#[46]⟩ : ByteArray) = ofL [46] from rfl]
  by_cases hb : byteAt s n = 46
  · rw [hb]; simp
  · rw [decide_eq_false hb, decide_eq_false]
    intro e
    have := congrArg (fun x => x.data.toList) e
    simp [ofL] at this
    exact hb this
set_option maxHeartbeats 800000 in
theorem has_suffix (s : ByteArray) (n : Nat) (h : s.size = n + 1) (hs : s.size ≤ 16777216) (w : World) : Calls Tryz.prog 133 #[.string s, .string ⟨#[46]⟩] w fun e w' => e = .returned (.bool (decide (byteAt s n = 46))) ∧ w = w' := by
  have hl := last_point h
  have h1 : ¬ (s.size : Int) < 1 := by omega
  have h2 : ((s.size : Int) - 1).toNat = n := by omega
  have h3 : (1 : Int) ≤ (s.size : Int) := by omega
  clear h
  go_enter Tryz.func133, Tryz.ntmps133
  go_wp2_with fail
  go_ret
  exact ⟨rfl, rfl⟩
/-- A text without a point at its end. -/
def cutP (s : ByteArray) : ByteArray := if 1 < s.size ∧ byteAt s (s.size - 1) = 46 then s.extract 0 (s.size - 1) else s
theorem cutP_long {s : ByteArray} {n : Nat} (h : s.size = n + 1) (h1 : 1 < s.size) : (if byteAt s n = 46 then s.extract 0 n else s) = cutP s := by
  unfold cutP
  rw [show s.size - 1 = n by omega]
  by_cases hb : byteAt s n = 46
  · rw [if_pos hb, if_pos ⟨h1, hb⟩]
  · rw [if_neg hb, if_neg (fun h => hb h.2)]
theorem cutP_short {s : ByteArray} (h1 : ¬ 1 < s.size) : cutP s = s := by unfold cutP; rw [if_neg (fun h => h1 h.1)]
theorem cutP_size (s : ByteArray) : (cutP s).size ≤ s.size := by
  unfold cutP
  split
  · rw [ByteArray.size_extract]; omega
  · exact Nat.le_refl _
theorem ref11_cut (s : ByteArray) (hs : s.size ≤ 16777216) (w : World) : Calls Tryz.prog 142 #[.string s] w fun e w' => e = .returned (.string (cutP s)) ∧ w = w' := by
  by_cases h1 : 1 < s.size
  · obtain ⟨n, hn⟩ : ∃ n, s.size = n + 1 := ⟨s.size - 1, by omega⟩
    have hcl := cutP_long hn h1
    have h2 : ((s.size : Int) - 1).toNat = n := by omega
    have h3 : (1 : Int) < (s.size : Int) := by omega
    have h4 : n < s.size := by omega
    have hb := byteAt_idx h4
    clear hn
    by_cases hp : byteAt s n = 46
    · rw [if_pos hp] at hcl
      rw [← hcl]
      have hp2 : (((byteAt s n).toNat : Int) == 46) = true := by rw [hp]; rfl
      clear hcl hp
      go_enter Tryz.func142, Tryz.ntmps142
      go_wp2_with fail
      go_ret
      exact ⟨rfl, rfl⟩
    · rw [if_neg hp] at hcl
      rw [← hcl]
      have hp2 : (((byteAt s n).toNat : Int) == 46) = false := u8_ne' (b := 46) hp
      clear hcl hp
      go_enter Tryz.func142, Tryz.ntmps142
      go_wp2_with fail
      go_ret
      exact ⟨rfl, rfl⟩
  · rw [cutP_short h1]
    go_enter Tryz.func142, Tryz.ntmps142
    go_wp2_with fail
    go_ret
    exact ⟨rfl, rfl⟩
end Go.Proofs.YtibhohpamnpkcaaGreatDoor

/- Names of labels, in plain words. -/
namespace Go.Proofs.YtibhohpamnpkcaaGreatDoor
open Go.RowKit

theorem chrs_place (s : ByteArray) (i : Nat) (h : (chrs s).2 = some i) : i < s.size := by
  have : ∀ f j, (chrsFrom s f j).2 = some i → i < s.size := by
    intro f
    induction f with
    | zero => intro j h; simp [chrsFrom] at h
    | succ f ih =>
      intro j h
      unfold chrsFrom at h
      split at h
      · split at h
        · exact ih _ h
        · simp at h; omega
      · simp at h
  exact this _ _ h
theorem badC_place : ∀ (l : List Nat) (a i : Nat), badC l a = some i → i ≤ a + 4 * l.length := by
  intro l
  induction l with
  | nil => intro a i h; cases h
  | cons c l ih =>
    intro a i h
    cases hm : mayB c with
    | true =>
      rw [badC_next hm] at h
      have h1 := ih _ _ h
      have h2 := putN_len c
      rw [putL_len] at h1
      simp only [List.length_cons]
      omega
    | false =>
      rw [badC_hit hm] at h
      cases h
      omega
theorem rightL_place (s : ByteArray) : (rightL s).2 ≤ s.size + 63 := by
  by_cases h0 : s.size = 0
  · rw [rightL_empty h0]; exact Nat.zero_le _
  by_cases h1 : 63 < s.size
  · rw [rightL_long h0 h1]; show 63 ≤ _; omega
  cases hb : badAt s s.size 0 with
  | some i =>
    rw [rightL_bad h0 h1 hb]
    have := badAt_lt s _ _ _ hb
    show i ≤ _
    omega
  | none =>
    rw [rightL_fine h0 h1 hb]
    split <;> exact Nat.zero_le _
theorem rightL_size {s : ByteArray} (h : (rightL s).1 = 0) : s.size ≤ 63 := by
  apply Nat.le_of_not_lt
  intro h1
  rw [rightL_long (by omega) h1] at h
  cases h
theorem asciiW_place {l : List Nat} {k i : Nat} (h : asciiW l = .error (k, i)) : i ≤ 4 * l.length + 63 := by
  cases hb : badC l 0 with
  | some j =>
    rw [asciiW_bad hb] at h
    cases h
    have := badC_place _ _ _ hb
    omega
  | none =>
    cases hm : marksL l with
    | false => rw [asciiW_marks hb hm] at h; cases h; exact Nat.zero_le _
    | true =>
      by_cases hl : 256 < l.length ∨ 59 < (encN l).length
      · rw [asciiW_long hb hm hl] at h; cases h; omega
      · rw [asciiW_ok hb hm hl] at h; cases h
theorem asciiW_size {l : List Nat} {t : ByteArray} (h : asciiW l = .ok t) : t.size ≤ 63 := by
  cases hb : badC l 0 with
  | some j => rw [asciiW_bad hb] at h; cases h
  | none =>
    cases hm : marksL l with
    | false => rw [asciiW_marks hb hm] at h; cases h
    | true =>
      by_cases hl : 256 < l.length ∨ 59 < (encN l).length
      · rw [asciiW_long hb hm hl] at h; cases h
      · rw [asciiW_ok hb hm hl] at h
        cases h
        show (xnL ++ encN l).toArray.size ≤ 63
        simp [xnL]
        omega
theorem asciiL_place {s : ByteArray} {k i : Nat} (h : asciiL s = .error (k, i)) : i ≤ 4 * s.size + 63 := by
  have hls := lowerS_size s
  cases hc : (chrs s).2 with
  | some j =>
    rw [asciiL_utf hc] at h
    cases h
    have := chrs_place s _ hc
    omega
  | none =>
    cases hw : wideL (chrs s).1 with
    | true =>
      rw [asciiL_wide hc hw] at h
      have h1 := asciiW_place h
      have h2 := lowC_len (lowerS s)
      omega
    | false =>
      by_cases h0 : (rightL (lowerS s)).1 = 0
      · rw [asciiL_low hc hw h0] at h; cases h
      · rw [asciiL_err hc hw h0] at h
        have h1 := rightL_place (lowerS s)
        have h2 : rightL (lowerS s) = (k, i) := by injection h
        rw [h2] at h1
        dsimp only at h1
        omega
theorem asciiL_size {s t : ByteArray} (h : asciiL s = .ok t) : t.size ≤ 63 := by
  cases hc : (chrs s).2 with
  | some j => rw [asciiL_utf hc] at h; cases h
  | none =>
    cases hw : wideL (chrs s).1 with
    | true => rw [asciiL_wide hc hw] at h; exact asciiW_size h
    | false =>
      by_cases h0 : (rightL (lowerS s)).1 = 0
      · rw [asciiL_low hc hw h0] at h; cases h; exact rightL_size h0
      · rw [asciiL_err hc hw h0] at h; cases h
/-- The labels' forms, one behind the other; or the first error, at its place. -/
def nameF : List ByteArray → Nat → Except (Nat × Nat) (List ByteArray)
  | [], _ => .ok []
  | p :: ps, a => match asciiL p with
    | .error e => .error (e.1, a + e.2)
    | .ok x => match nameF ps (a + p.size + 1) with
      | .error e => .error e
      | .ok xs => .ok (x :: xs)
def aheadF (xs : List ByteArray) : Except (Nat × Nat) (List ByteArray) → Except (Nat × Nat) (List ByteArray)
  | .error e => .error e
  | .ok ys => .ok (xs ++ ys)
theorem nameF_err {p : ByteArray} {ps : List ByteArray} {a k i : Nat} (h : asciiL p = .error (k, i)) : nameF (p :: ps) a = .error (k, a + i) := by rw [nameF, h]
theorem nameF_ok {p x : ByteArray} {ps : List ByteArray} {a : Nat} (h : asciiL p = .ok x) : nameF (p :: ps) a = aheadF [x] (nameF ps (a + p.size + 1)) := by
  rw [nameF, h]
  dsimp only
  cases nameF ps (a + p.size + 1) <;> rfl
theorem ahead_ahead (xs ys : List ByteArray) (r : Except (Nat × Nat) (List ByteArray)) : aheadF xs (aheadF ys r) = aheadF (xs ++ ys) r := by
  cases r with
  | error e => rfl
  | ok zs => simp [aheadF]
theorem ahead_nil (r : Except (Nat × Nat) (List ByteArray)) : aheadF [] r = r := by cases r <;> rfl
/-- A text's labels, where there aren't too many. -/
def fieldsB (s : ByteArray) : List ByteArray := (cutAt s 46 s.size).1 ++ [s.extract (cutAt s 46 s.size).2 s.size]
theorem fieldsB_sizes (s : ByteArray) : ∀ p ∈ fieldsB s, p.size ≤ s.size := by
  intro p hp
  unfold fieldsB at hp
  rw [fields_split] at hp
  obtain ⟨l, hl, rfl⟩ := List.mem_map.1 hp
  have h := splitL_len 46 _ s.data.toList (Nat.le_refl _)
  have hs : s.data.toList.length = s.size := rfl
  have h2 : l.length ≤ ((splitL 46 s.data.toList).map List.length).sum := by
    have : ∀ (ls : List (List UInt8)), l ∈ ls → l.length ≤ (ls.map List.length).sum := by
      intro ls
      induction ls with
      | nil => intro h; cases h
      | cons x ls ih =>
        intro h
        simp only [List.map_cons, List.sum_cons]
        rcases List.mem_cons.1 h with rfl | h
        · omega
        · have := ih h; omega
    exact this _ hl
  have h3 : 1 ≤ (splitL 46 s.data.toList).length := by
    have := splitL_ne 46 s.data.toList
    cases hh : splitL 46 s.data.toList with
    | nil => exact absurd hh this
    | cons a b => simp
  show (ofL l).size ≤ _
  rw [show (ofL l).size = l.length by show l.toArray.size = _; simp]
  omega
theorem fieldsB_len (s : ByteArray) : (fieldsB s).length = (cutAt s 46 s.size).1.length + 1 := by unfold fieldsB; simp
def joinP (xs : List ByteArray) : ByteArray := ofL (joinA 46 (xs.map (·.data.toList)))
end Go.Proofs.YtibhohpamnpkcaaGreatDoor
