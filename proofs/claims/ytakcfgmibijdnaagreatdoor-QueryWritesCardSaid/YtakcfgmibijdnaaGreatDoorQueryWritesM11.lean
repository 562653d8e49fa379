/- Plain facts: the characters of two rows of bytes, one behind the other. -/
import Derived.Test.YtakcfgmibijdnaaGreatDoorQueryWritesM10
import Derived.Test.YtakcfgmibijdnaaGreatDoorQueryWritesM1
import Derived.LaidHandle
import Derived.LaidLaws
import Derived.Stop.Joined
import Derived.Lib.LaidU8T
import Derived.Shelf.Unicode.DecodeSlow
import Derived.Test.YtakcfgmibijdnaaGreatDoorQueryWritesM7
import Derived.Test.YtakcfgmibijdnaaGreatDoorQueryWritesM3
import Derived.Test.YtakcfgmibijdnaaGreatDoorShelf

namespace Go.Proofs.YtakcfgmibijdnaaGreatDoor

theorem guessZ_agree {k : Nat} (hk1 : 1 ≤ k) (hk4 : k ≤ 4) {b0 b1 b2 b3 c0 c1 c2 c3 : Nat} (h0 : b0 = c0) (h1 : 2 ≤ k → b1 = c1) (h2 : 3 ≤ k → b2 = c2) (h3 : 4 ≤ k → b3 = c3) :
    guessZ k b0 b1 b2 b3 = guessZ k c0 c1 c2 c3 ∧ firstN k b0 b1 b2 b3 = firstN k c0 c1 c2 c3 := by
  have hc : k = 1 ∨ k = 2 ∨ k = 3 ∨ k = 4 := by omega
  subst h0
  rcases hc with rfl | rfl | rfl | rfl
  · exact ⟨by rw [show ((1 : Nat) : Int) = 1 from rfl, guess1, guess1], rfl⟩
  · rw [h1 (by omega)]
    exact ⟨by rw [show ((2 : Nat) : Int) = 2 from rfl, guess2, guess2], rfl⟩
  · rw [h1 (by omega), h2 (by omega)]
    exact ⟨by rw [show ((3 : Nat) : Int) = 3 from rfl, guess3, guess3], rfl⟩
  · rw [h1 (by omega), h2 (by omega), h3 (by omega)]
    exact ⟨rfl, rfl⟩

/-- What stands whole ahead of the end is told alike when more bytes follow. -/
theorem decB_more {s t : ByteArray} {i i' : Nat} (hi : i < s.size) (hle : s.size - i ≤ t.size - i') (ho : okB s i = true) (hb : ∀ j, j < s.size - i → byteAt t (i' + j) = byteAt s (i + j)) : decB t i' = decB s i ∧ okB t i' = true := by
  have ho' : decB s i ≠ (65533, 1) := of_decide_eq_true ho
  obtain ⟨k, hk1, hk4, hkn, hr, hp⟩ := dec_hit (n := s.size - i) (by omega) (byteAt s i).toNat_lt (byteAt s (i + 1)).toNat_lt (byteAt s (i + 2)).toNat_lt (byteAt s (i + 3)).toNat_lt ho'
  obtain ⟨e1, _⟩ := hit_dec hk1 hk4 hkn (byteAt s i).toNat_lt (byteAt s (i + 1)).toNat_lt (byteAt s (i + 2)).toNat_lt (byteAt s (i + 3)).toNat_lt hr hp
  have g := guessZ_agree hk1 hk4 (b0 := (byteAt t i').toNat) (b1 := (byteAt t (i' + 1)).toNat) (b2 := (byteAt t (i' + 2)).toNat) (b3 := (byteAt t (i' + 3)).toNat)
    (c0 := (byteAt s i).toNat) (c1 := (byteAt s (i + 1)).toNat) (c2 := (byteAt s (i + 2)).toNat) (c3 := (byteAt s (i + 3)).toNat)
    (by have := hb 0 (by omega); simpa using congrArg UInt8.toNat this) (fun h => congrArg UInt8.toNat (hb 1 (by omega))) (fun h => congrArg UInt8.toNat (hb 2 (by omega))) (fun h => congrArg UInt8.toNat (hb 3 (by omega)))
  rw [← g.1] at hr hp
  rw [← g.2] at hp
  obtain ⟨e2, n2⟩ := hit_dec (n := t.size - i') hk1 hk4 (by omega) (byteAt t i').toNat_lt (byteAt t (i' + 1)).toNat_lt (byteAt t (i' + 2)).toNat_lt (byteAt t (i' + 3)).toNat_lt hr hp
  have e3 : decB t i' = decB s i := by
    unfold decB
    rw [e1, e2, g.1]
  refine ⟨e3, ?_⟩
  unfold okB
  rw [e3]
  exact ho

theorem byteAt_app (a b : ByteArray) (j : Nat) : byteAt (a ++ b) j = if j < a.size then byteAt a j else byteAt b (j - a.size) := by
  have e : (a ++ b).data.toList = a.data.toList ++ b.data.toList := by rw [ByteArray.data_append]; simp
  have ha : a.data.toList.length = a.size := rfl
  unfold byteAt
  rw [e]
  simp only [List.getD, List.getElem?_append, ha]
  split <;> rfl
theorem size_app (a b : ByteArray) : (a ++ b).size = a.size + b.size := ByteArray.size_append

/-- What begins in the second is told as there. -/
theorem decB_second (a b : ByteArray) (j : Nat) : decB (a ++ b) (a.size + j) = decB b j := by
  have hb : ∀ m, byteAt (a ++ b) (a.size + m) = byteAt b m := fun m => by
    rw [byteAt_app, if_neg (by omega)]
    congr 1; omega
  unfold decB
  rw [size_app, hb, Nat.add_assoc, hb, Nat.add_assoc, hb, Nat.add_assoc, hb]
  congr 1; omega

theorem chrs_first (a b : ByteArray) : ∀ (f i : Nat) (l : List Nat), a.size - i ≤ f → i ≤ a.size → (chrsFrom a f i).2 = none → Reach (a ++ b) l i → Reach (a ++ b) (l ++ (chrsFrom a f i).1) a.size := by
  intro f
  induction f with
  | zero =>
    intro i l hf hi _ hr
    obtain rfl : i = a.size := by omega
    simpa [chrsFrom] using hr
  | succ f ih =>
    intro i l hf hi hn hr
    unfold chrsFrom at hn ⊢
    by_cases hlt : i < a.size
    · rw [if_pos hlt] at hn ⊢
      by_cases ho : okB a i = true
      · rw [if_pos ho] at hn ⊢
        have hd := decB_bounds a i hlt
        have hm := decB_more (s := a) (t := a ++ b) (i := i) (i' := i) hlt (by rw [size_app]; omega) ho (fun j hj => by rw [byteAt_app, if_pos (by omega)])
        have hs := hr.step (by rw [size_app]; omega) hm.2
        rw [hm.1] at hs
        have := ih (i + (decB a i).2) _ (by omega) (by omega) hn hs
        simpa using this
      · rw [if_neg ho] at hn
        simp at hn
    · rw [if_neg hlt]
      obtain rfl : i = a.size := by omega
      simpa using hr

theorem chrs_second (a b : ByteArray) : ∀ (f j : Nat) (l : List Nat), b.size - j ≤ f → j ≤ b.size → Reach (a ++ b) l (a.size + j) → chrs (a ++ b) = (l ++ (chrsFrom b f j).1, (chrsFrom b f j).2.map (a.size + ·)) := by
  intro f
  induction f with
  | zero =>
    intro j l hf hj hr
    obtain rfl : j = b.size := by omega
    rw [hr.done (by rw [size_app]; omega)]
    simp [chrsFrom]
  | succ f ih =>
    intro j l hf hj hr
    unfold chrsFrom
    by_cases hlt : j < b.size
    · rw [if_pos hlt]
      have hd := decB_bounds b j hlt
      have he := decB_second a b j
      have heo : okB (a ++ b) (a.size + j) = okB b j := by unfold okB; rw [he]
      by_cases ho : okB b j = true
      · rw [if_pos ho]
        have hs := hr.step (by rw [size_app]; omega) (heo.trans ho)
        rw [he, Nat.add_assoc] at hs
        have := ih (j + (decB b j).2) _ (by omega) (by omega) hs
        simpa using this
      · rw [if_neg ho, hr.bad (by rw [size_app]; omega) (by rw [heo]; exact Bool.not_eq_true _ ▸ ho)]
        simp
    · rw [if_neg hlt]
      obtain rfl : j = b.size := by omega
      rw [hr.done (by rw [size_app]; omega)]
      simp

theorem chrs_join (a b : ByteArray) (ha : (chrs a).2 = none) : chrs (a ++ b) = ((chrs a).1 ++ (chrs b).1, (chrs b).2.map (a.size + ·)) := by
  have h1 := chrs_first a b a.size 0 [] (by omega) (by omega) ha (Reach.zero _)
  have h2 := chrs_second a b b.size 0 _ (by omega) (by omega) h1
  rw [h2]
  simp [chrs]
theorem chrs_len (s : ByteArray) : (chrs s).1.length ≤ s.size := by
  have : ∀ f i, i ≤ s.size → (chrsFrom s f i).1.length ≤ s.size - i := by
    intro f
    induction f with
    | zero => intro i _; simp [chrsFrom]
    | succ f ih =>
      intro i hi
      unfold chrsFrom
      split
      · split
        · have hd := decB_bounds s i (by assumption)
          have := ih (i + (decB s i).2) (by omega)
          simp only [List.length_cons]; omega
        · simp
      · simp
  simpa [chrs] using this s.size 0 (by omega)
end Go.Proofs.YtakcfgmibijdnaaGreatDoor

/- Plain facts on characters: a byte below 128 ends whatever stands ahead of it; characters below 128 are bytes. -/
namespace Go.Proofs.YtakcfgmibijdnaaGreatDoor

theorem putN_cont {n m x : Nat} (hm : 1 ≤ m) (h : (putN n)[m]? = some x) : 128 ≤ x := by
  unfold putN at h
  repeat' split at h
  all_goals
    match m, hm, h with
    | 1, _, h => simp at h <;> omega
    | 2, _, h => simp at h <;> omega
    | 3, _, h => simp at h <;> omega
    | m + 4, _, h => simp at h
theorem firstN_get {k b0 b1 b2 b3 m : Nat} (hm : m < k) (hk : k ≤ 4) : (firstN k b0 b1 b2 b3)[m]? = some (if m = 0 then b0 else if m = 1 then b1 else if m = 2 then b2 else b3) := by
  unfold firstN
  rw [List.getElem?_take, if_pos hm]
  match m, (by omega : m < 4) with
  | 0, _ => rfl
  | 1, _ => rfl
  | 2, _ => rfl
  | 3, _ => rfl
/-- What isn't whole ahead of a byte below 128 isn't whole with it. -/
theorem decB_cut {s t : ByteArray} {i i' : Nat} (hi : i < s.size) (hlt : s.size - i < t.size - i') (hb : ∀ j, j < s.size - i → byteAt t (i' + j) = byteAt s (i + j))
    (hc : (byteAt t (i' + (s.size - i))).toNat < 128) (ho : okB t i' = true) : okB s i = true := by
  have ho' : decB t i' ≠ (65533, 1) := of_decide_eq_true ho
  obtain ⟨k, hk1, hk4, hkn, hr, hp⟩ := dec_hit (n := t.size - i') (by omega) (byteAt t i').toNat_lt (byteAt t (i' + 1)).toNat_lt (byteAt t (i' + 2)).toNat_lt (byteAt t (i' + 3)).toNat_lt ho'
  by_cases hkm : k ≤ s.size - i
  · have g := guessZ_agree hk1 hk4 (b0 := (byteAt s i).toNat) (b1 := (byteAt s (i + 1)).toNat) (b2 := (byteAt s (i + 2)).toNat) (b3 := (byteAt s (i + 3)).toNat)
      (c0 := (byteAt t i').toNat) (c1 := (byteAt t (i' + 1)).toNat) (c2 := (byteAt t (i' + 2)).toNat) (c3 := (byteAt t (i' + 3)).toNat)
      (by have := hb 0 (by omega); simpa using (congrArg UInt8.toNat this).symm) (fun h => (congrArg UInt8.toNat (hb 1 (by omega))).symm) (fun h => (congrArg UInt8.toNat (hb 2 (by omega))).symm) (fun h => (congrArg UInt8.toNat (hb 3 (by omega))).symm)
    rw [← g.1] at hr hp
    rw [← g.2] at hp
    obtain ⟨e2, n2⟩ := hit_dec (n := s.size - i) hk1 hk4 hkm (byteAt s i).toNat_lt (byteAt s (i + 1)).toNat_lt (byteAt s (i + 2)).toNat_lt (byteAt s (i + 3)).toNat_lt hr hp
    unfold okB decB
    rw [e2]
    exact decide_eq_true n2
  · exfalso
    have hm : s.size - i < k := by omega
    have h1 := firstN_get (b0 := (byteAt t i').toNat) (b1 := (byteAt t (i' + 1)).toNat) (b2 := (byteAt t (i' + 2)).toNat) (b3 := (byteAt t (i' + 3)).toNat) hm hk4
    rw [← hp] at h1
    have h2 := putN_cont (by omega) h1
    have hx : s.size - i = 1 ∨ s.size - i = 2 ∨ s.size - i = 3 := by omega
    rcases hx with hx | hx | hx <;> rw [hx] at h2 hc <;> simp at h2 <;> omega

theorem chrs_first_bad (a b : ByteArray) (hb0 : 0 < b.size) (hb : (byteAt b 0).toNat < 128) : ∀ (f i k : Nat) (l : List Nat), a.size - i ≤ f → i ≤ a.size → (chrsFrom a f i).2 = some k → Reach (a ++ b) l i → chrs (a ++ b) = (l ++ (chrsFrom a f i).1, some k) := by
  intro f
  induction f with
  | zero =>
    intro i k l hf hi hn hr
    simp [chrsFrom] at hn
  | succ f ih =>
    intro i k l hf hi hn hr
    unfold chrsFrom at hn ⊢
    by_cases hlt : i < a.size
    · rw [if_pos hlt] at hn ⊢
      by_cases ho : okB a i = true
      · rw [if_pos ho] at hn ⊢
        have hd := decB_bounds a i hlt
        have hm := decB_more (s := a) (t := a ++ b) (i := i) (i' := i) hlt (by rw [size_app]; omega) ho (fun j hj => by rw [byteAt_app, if_pos (by omega)])
        have hs := hr.step (by rw [size_app]; omega) hm.2
        rw [hm.1] at hs
        have := ih (i + (decB a i).2) k _ (by omega) (by omega) hn hs
        simpa using this
      · rw [if_neg ho] at hn ⊢
        obtain rfl : i = k := by simpa using hn
        have hno : okB (a ++ b) i = false := by
          rw [Bool.eq_false_iff]
          intro h
          exact ho (decB_cut (s := a) (t := a ++ b) (i := i) (i' := i) hlt (by rw [size_app]; omega) (fun j hj => by rw [byteAt_app, if_pos (by omega)]) (by rw [byteAt_app, if_neg (by omega), show i + (a.size - i) - a.size = 0 by omega]; exact hb) h)
        rw [hr.bad (by rw [size_app]; omega) hno]
        simp
    · rw [if_neg hlt] at hn
      simp at hn
theorem chrs_join_bad (a b : ByteArray) (k : Nat) (ha : (chrs a).2 = some k) (hb0 : 0 < b.size) (hb : (byteAt b 0).toNat < 128) : chrs (a ++ b) = ((chrs a).1, some k) := by
  have := chrs_first_bad a b hb0 hb a.size 0 k [] (by omega) (by omega) ha (Reach.zero _)
  rw [List.nil_append] at this
  exact this
theorem chrs_byte (c : UInt8) (h : c.toNat < 128) : chrs ⟨#[c]⟩ = ([c.toNat], none) := by
  have hb : byteAt (⟨#[c]⟩ : ByteArray) 0 = c := rfl
  have hs : (⟨#[c]⟩ : ByteArray).size = 1 := rfl
  have hd : decB ⟨#[c]⟩ 0 = (c.toNat, 1) := by unfold decB Lib.decodeN; rw [hb, if_pos h]
  have ho : okB ⟨#[c]⟩ 0 = true := by unfold okB; rw [hd]; refine decide_eq_true (fun e => ?_); simp at e; omega
  unfold chrs
  rw [hs]
  unfold chrsFrom
  rw [hs, if_pos (by omega), if_pos ho, hd]
  rfl

/-- Of a row of bytes each character below 128 is a byte. -/
theorem dec_small {n b0 b1 b2 b3 : Nat} (h : (Lib.decodeN n b0 b1 b2 b3).1 < 128) : Lib.decodeN n b0 b1 b2 b3 = (b0, 1) := by
  unfold Lib.decodeN at h ⊢
  repeat' split at h
  all_goals first | (exfalso; simp at h; done) | (exfalso; simp at h; omega) | skip
  rw [if_pos (by assumption)]
theorem chrs_small (s : ByteArray) : ∀ (f i : Nat) (c : Nat), c ∈ (chrsFrom s f i).1 → c < 128 → ∃ j, j < s.size ∧ i ≤ j ∧ (byteAt s j).toNat = c := by
  intro f
  induction f with
  | zero => intro i c h; simp [chrsFrom] at h
  | succ f ih =>
    intro i c h hc
    unfold chrsFrom at h
    split at h
    · rename_i hi
      have hd := decB_bounds s i hi
      split at h
      · rcases List.mem_cons.1 h with h | h
        · have h2 : (decB s i).1 < 128 := by omega
          have h3 := dec_small h2
          refine ⟨i, hi, Nat.le_refl _, ?_⟩
          rw [h]
          change decB s i = _ at h3
          rw [h3]
        · obtain ⟨j, h1, h2, h3⟩ := ih _ _ h hc
          exact ⟨j, h1, by omega, h3⟩
      · cases h
    · cases h
end Go.Proofs.YtakcfgmibijdnaaGreatDoor

/- What a row's list of package variables gives: errors.errorType; plain data. -/
namespace Go.Proofs.YtakcfgmibijdnaaGreatDoor
open Go.ChangeShapes Go.WideShapes Go.RowKit

/-- The package-level variable that errors.As reads, as the row lists it. -/
def Handle (w : World) : Prop := w.cell? ⟨0, 0, none⟩ = some (.iface 174 (.agg #[.pointer (some ⟨5, 28, none⟩)]))
theorem Handle.below {w w' : World} (h : Handle w) (hb : Below w.heap.size w w') : Handle w' := (hb.cell (World.block_lt_of_cell? w _ h)).trans h
theorem Handle.drewN {w : World} (h : Handle w) (n : Nat) : Handle (w.drewN n) := h

theorem laid_et : Tryz.prog.globalNamed "errors.errorType" = some 0 := by kernel_rfl
theorem laid_row : ((List.range 349).filter fun t => Tryz.prog.rowNamed t [101, 114, 114, 111, 114]) = [28] := by kernel_rfl
theorem laid_size : Tryz.prog.types.size = 349 := by kernel_rfl

theorem handle_of_laid {l : List (String × DataW Unit)} {W : World} (h : laidMetH Tryz.prog l W) (hx : ("errors.errorType", Rows.laid_errors_errorType) ∈ l) : Handle W := by
  have hs : (Rows.laid_errors_errorType : DataW Unit).handleName?.isSome = true := rfl
  have hm : ("errors.errorType", Rows.laid_errors_errorType) ∈ l.filter fun x => x.2.handleName?.isSome := List.mem_filter.2 ⟨hx, hs⟩
  unfold laidMetH at h
  generalize (l.filter fun x => x.2.handleName?.isSome) = fl at h hm
  cases fl with
  | nil => cases hm
  | cons a q =>
    obtain ⟨name, u, ty, e1, e2, e3, e4, e5⟩ := h.2 _ hm
    have en : name = [101, 114, 114, 111, 114] := (Option.some.inj e1).symm
    subst en
    obtain rfl : u = 174 := Option.some.inj (e2.symm.trans (by kernel_rfl))
    have hm : ty ∈ (List.range 349).filter fun t => Tryz.prog.rowNamed t [101, 114, 114, 111, 114] := List.mem_filter.2 ⟨List.mem_range.2 (by rw [← laid_size]; exact e3), e4⟩
    rw [laid_row] at hm
    obtain rfl := List.mem_singleton.1 hm
    have hh : typeHandle Tryz.prog 28 = .pointer (some ⟨5, 28, none⟩) := by kernel_rfl
    rw [hh] at e5
    simpa [Handle] using World.var?_cell laid_et e5 0

theorem data_of_laid {l : List (String × DataW Unit)} {W : World} (h : laidMetH Tryz.prog l W) {n : String} {d : DataW Unit} (hx : (n, d) ∈ l) (hd : d.handleName?.isNone = true) : Lib.VarReads Tryz.prog W n d := by
  unfold laidMetH at h
  generalize hfl : (l.filter fun x => x.2.handleName?.isSome) = fl at h
  cases fl with
  | nil => exact Lib.laidMet.reads h hx
  | cons a q => exact Lib.laidMet.reads h.1 (List.mem_filter.2 ⟨hx, hd⟩)

end Go.Proofs.YtakcfgmibijdnaaGreatDoor

/- What a row's list of package variables gives: errors.errorType, the tables of unicode/utf8. A world that holds them. -/
namespace Go.Proofs.YtakcfgmibijdnaaGreatDoor
open Go.ChangeShapes Go.WideShapes Go.RowKit

/-- The tables of unicode/utf8, as their initialisers lay them. -/
def Utf8Laid (w : World) : Prop := Lib.Utf8Tabs 3 4 w
theorem Utf8Laid.below {w w' : World} (h : Utf8Laid w) (hb : Below w.heap.size w w') : Utf8Laid w' :=
  ⟨fun c hc => (hb.cell (World.block_lt_of_cell? w _ (h.1 c hc))).trans (h.1 c hc),
    fun i hi => ⟨(hb.cell (World.block_lt_of_cell? w _ (h.2 i hi).1)).trans (h.2 i hi).1, (hb.cell (World.block_lt_of_cell? w _ (h.2 i hi).2)).trans (h.2 i hi).2⟩⟩
theorem Utf8Laid.drewN {w : World} (h : Utf8Laid w) (n : Nat) : Utf8Laid (w.drewN n) := h

def u8ren : Go.Shelf.Ren := ⟨fun n => n, fun | 5 => 5 | 119 => 252 | 138 => 254 | 139 => 255 | n => n, fun | 3 => 3 | 4 => 4 | n => n⟩
theorem u8types : U8Types Tryz.prog u8ren := { t5 := Tryz.underlying5, t119 := Tryz.underlying252, t138 := Tryz.underlying254, t139 := Tryz.underlying255 }
theorem u8extra : U8Extra Tryz.prog u8ren := { n3 := by kernel_rfl, n4 := by kernel_rfl, y3 := by kernel_rfl, y4 := by kernel_rfl, c5 := by kernel_rfl, c119 := by kernel_rfl, c138 := by kernel_rfl }
theorem u8first : Lib.firstData = Rows.laid_unicode_utf8_first := by kernel_rfl
theorem u8accept : Lib.acceptData = Rows.laid_unicode_utf8_acceptRanges := by kernel_rfl
noncomputable def laidWorld (os : Os) : World :=
  let w0 := World.holding Tryz.prog os ⟨#[], #[], []⟩
  let h1 := w0.heap.modify 0 fun
      | .cells _ t frozen => .cells #[.iface 174 (.agg #[.pointer (some ⟨5, 28, none⟩)])] t frozen
      | o => o
  let h2 := h1.modify 3 fun
      | .cells _ t frozen => .cells (Lib.firstTab.map (Value.int .u8)).toArray t frozen
      | o => o
  let h3 := h2.modify 4 fun
      | .cells _ t frozen => .cells ((List.range 16).flatMap fun i => [Value.int .u8 (Lib.accLo i : Nat), Value.int .u8 (Lib.accHi i : Nat)]).toArray t frozen
      | o => o
  { w0 with heap := h3 }
end Go.Proofs.YtakcfgmibijdnaaGreatDoor

/- utf.Next: the character at a place. -/
namespace Go.Proofs.YtakcfgmibijdnaaGreatDoor
open Go.RowKit

theorem utf8_DecodeRune (s : ByteArray) (i b off cap : Nat) (w : World) (hU : Utf8Laid w) (hi : i < s.size) (hp : BytesIn w b off s) :
    Calls Tryz.prog 131 #[.slice (some ⟨b, off + i, none⟩) (s.size - i) cap] w fun e w' => e = .returned (.tuple #[.int .i32 ((decB s i).1 : Int), .int .i64 ((decB s i).2 : Int)]) ∧ Below w.heap.size w w' := by
  have hsz := extract_tail_size s i (by omega)
  have h := Any7.utf8_DecodeRune Tryz.lays7n32 (s.extract i s.size) b (off + i) cap w hU (fun j hj => by
    rw [byteAt_get, Nat.add_assoc, byteAt_extract s i j (by omega)]
    exact hp (i + j) (by omega))
  rw [decodeGo_extract s i hi, hsz] at h
  exact h

def NextPost (s : ByteArray) (i : Nat) (w : World) (e : Ending) (w' : World) : Prop :=
  Below w.heap.size w w' ∧ ((okB s i = true ∧ e = .returned (.tuple #[.int .i64 ((decB s i).1 : Int), .int .i64 ((decB s i).2 : Int), .nilIface])) ∨
    (okB s i = false ∧ ∃ v, e = .returned (.tuple #[.int .i64 0, .int .i64 0, v]) ∧ IsFault w' v 12 i))

set_option maxHeartbeats 1600000 in
set_option maxRecDepth 100000 in
theorem utf_Next (s : ByteArray) (i b off cap : Nat) (w : World) (hU : Utf8Laid w) (hi : i < s.size) (hc : s.size ≤ cap) (_ : cap ≤ 9223372036854775807) (hp : BytesIn w b off s) :
    Calls Tryz.prog 89 #[.slice (some ⟨b, off, none⟩) s.size cap, .int .i64 (i : Int)] w (NextPost s i w) := by
  obtain ⟨hd1, hd2, hd3, hd4⟩ := decB_bounds s i hi
  have hd5 : (decB s i).1 ≤ 1114111 := by unfold rightC at hd4; omega
  have hok : okB s i = decide (decB s i ≠ (65533, 1)) := rfl
  have hD := Lib.hid (show decB s i = ((decB s i).1, (decB s i).2) from rfl)
  generalize hc1 : (decB s i).1 = c at *
  generalize hn1 : (decB s i).2 = n at *
  have HC := Lib.hid hc1
  have HN := Lib.hid hn1
  have HOK := Lib.hid hok
  clear hc1 hn1 hok hd4
  have hnb : (i : Int) ≤ (s.size : Int) := by omega
  go_enter Tryz.func89, Tryz.ntmps89
  go_wp2_with fail
  refine (utf8_DecodeRune s i b off _ _ hU hi hp).mono ?_
  rintro e w1 ⟨rfl, hb1⟩
  rw [HC.out, HN.out]
  by_cases hc0 : c = 65533
  · by_cases hn0 : n = 1
    · subst hc0 hn0
      go_wp2_with fail
      refine (api_Fail' _ _ _).mono ?_
      rintro e w3 ⟨v, rfl, hv, hb3⟩
      go_wp2_with fail
      go_ret3
      exact ⟨Bt hb1 hb3, .inr ⟨by rw [HOK.out, hD.out]; rfl, v, rfl, hv⟩⟩
    · subst hc0
      have e2 : ((n : Int) == 1) = false := by rw [beq_eq_false_iff_ne]; omega
      go_wp2_with fail
      go_ret3
      exact ⟨hb1, .inl ⟨by rw [HOK.out, hD.out]; simp [hn0], by rw [HC.out, HN.out]; rfl⟩⟩
  · have e1 : ((c : Int) == 65533) = false := by rw [beq_eq_false_iff_ne]; omega
    go_wp2_with fail
    go_ret3
    exact ⟨hb1, .inl ⟨by rw [HOK.out, hD.out]; simp [hc0], by rw [HC.out, HN.out]; rfl⟩⟩

set_option maxHeartbeats 1600000 in
theorem utf_Next_arg (a : Option Addr) (len cap : Nat) (i : Int) (w : World) (hi : i < 0 ∨ (len : Int) < i) :
    Calls Tryz.prog 89 #[.slice a len cap, .int .i64 i] w fun e w' => ∃ v, e = .returned (.tuple #[.int .i64 0, .int .i64 0, v]) ∧ IsFault w' v 1 i ∧ Below w.heap.size w w' := by
  rcases hi with hi | hi
  all_goals
    go_enter Tryz.func89, Tryz.ntmps89
    go_wp2_with fail
    refine (api_Fail' _ _ _).mono ?_
    rintro e w3 ⟨v, rfl, hv, hb3⟩
    go_wp2_with fail
    go_ret3
    exact ⟨v, rfl, hv, hb3⟩

theorem utf_Next_end (a : Option Addr) (len cap : Nat) (w : World) (_ : len ≤ 9223372036854775807) :
    Calls Tryz.prog 89 #[.slice a len cap, .int .i64 (len : Int)] w fun e w' => ∃ v, e = .returned (.tuple #[.int .i64 0, .int .i64 0, v]) ∧ IsFault w' v 10 len ∧ Below w.heap.size w w' := by
  go_enter Tryz.func89, Tryz.ntmps89
  go_wp2_with fail
  refine (api_Fail' _ _ _).mono ?_
  rintro e w3 ⟨v, rfl, hv, hb3⟩
  go_wp2_with fail
  go_ret3
  exact ⟨v, rfl, hv, hb3⟩
end Go.Proofs.YtakcfgmibijdnaaGreatDoor
