/- A kind of content's text: plain facts; what is read of it. -/
import Derived.Test.YtndppcklpcfikaaGreatDoorMediaCasesM7
import Derived.Test.YtndppcklpcfikaaGreatDoorMediaCasesM4
import Derived.Test.YtndppcklpcfikaaGreatDoorMediaCasesM3
import Derived.Test.YtndppcklpcfikaaGreatDoorMediaCasesM2

namespace Go.Proofs.YtndppcklpcfikaaGreatDoor
open Go.RowKit

/-- The bytes that stand for some between marks. -/
def escL (l : List UInt8) : List UInt8 := l.flatMap fun c => if c = 34 ∨ c = 92 then [92, c] else [c]
/-- A value as it stands in a text. -/
def valT (v : ByteArray) : List UInt8 := if tokOk v.data.toList = true then v.data.toList else 34 :: (escL v.data.toList ++ [34])
def bodyT (P Q R : List UInt8) (f : ByteArray → List UInt8) (l : List It) : List UInt8 := l.flatMap fun x => P ++ 59 :: (Q ++ (f x.name ++ 61 :: (valT x.value ++ R)))
def wholeT (P Q R : List UInt8) (f : ByteArray → List UInt8) (m : Md) : List UInt8 := P ++ (f m.type ++ 47 :: (f m.sub ++ bodyT P Q R f m.params))
/-- A kind's text. -/
def mtxt (m : Md) : List UInt8 := wholeT [] [32] [] (fun b => b.data.toList) m
def Gd (f : ByteArray → List UInt8) (b : ByteArray) : Prop := tokOk (f b) = true ∧ lowerS (ofL (f b)) = b
def Stop (r : List UInt8) : Prop := ∀ c r', r = c :: r' → inTok c = false
theorem escL_cons (c : UInt8) (l : List UInt8) : escL (c :: l) = (if c = 34 ∨ c = 92 then [92, c] else [c]) ++ escL l := rfl
theorem escL_app (a b : List UInt8) : escL (a ++ b) = escL a ++ escL b := by unfold escL; exact List.flatMap_append
theorem escL_len (l : List UInt8) : (escL l).length ≤ 2 * l.length := by
  induction l with
  | nil => simp [escL]
  | cons c l ih =>
    rw [escL_cons, List.length_append, List.length_cons]
    split <;> simp <;> omega
theorem quoted_esc : ∀ (v r out : List UInt8), quotedG (escL v ++ 34 :: r) out = some (out ++ v, r) := by
  intro v
  induction v with
  | nil => intro r out; rw [show escL [] ++ 34 :: r = 34 :: r from rfl, quotedG_end rfl, List.append_nil]
  | cons c v ih =>
    intro r out
    rw [escL_cons]
    by_cases h : c = 34 ∨ c = 92
    · rw [if_pos h]
      show quotedG (92 :: c :: (escL v ++ 34 :: r)) out = _
      rw [quotedG_esc, ih]
      simp
    · rw [if_neg h]
      show quotedG (c :: (escL v ++ 34 :: r)) out = _
      rw [quotedG_step (fun e => h (.inl e)) (fun e => h (.inr e)), ih]
      simp
theorem inTok_34 : inTok 34 = false := by decide +kernel
theorem inTok_47 : inTok 47 = false := by decide +kernel
theorem inTok_59 : inTok 59 = false := by decide +kernel
theorem inTok_61 : inTok 61 = false := by decide +kernel
theorem blank_tok {c : UInt8} (h : isBlank c = true) : inTok c = false := by
  have : ∀ n : Fin 256, isBlank (UInt8.ofNat n.1) = true → inTok (UInt8.ofNat n.1) = false := by decide +kernel
  have := this ⟨c.toNat, c.toNat_lt⟩
  simp only [UInt8.ofNat_toNat] at this
  exact this h
theorem tok_blank {c : UInt8} (h : inTok c = true) : isBlank c = false := by
  cases hb : isBlank c with
  | false => rfl
  | true => rw [blank_tok hb] at h; cases h
theorem Stop.cons {c : UInt8} {r : List UInt8} (h : inTok c = false) : Stop (c :: r) := by
  intro d r' e
  injection e with e1 e2
  rw [← e1]; exact h
theorem Stop.nil : Stop [] := by intro c r e; cases e
theorem Stop.app {P r : List UInt8} (hP : P.all isBlank = true) (h : Stop r) : Stop (P ++ r) := by
  cases P with
  | nil => exact h
  | cons c P =>
    refine Stop.cons ?_
    rw [List.all_cons, Bool.and_eq_true] at hP
    exact blank_tok hP.1
theorem tok_app {l r : List UInt8} (h : l.all inTok = true) (hr : Stop r) : tokW (l ++ r) = l ∧ tokR (l ++ r) = r := by
  induction l with
  | nil =>
    cases r with
    | nil => exact ⟨rfl, rfl⟩
    | cons c r =>
      have := hr c r rfl
      simp [tokW, tokR, this]
  | cons c l ih =>
    rw [List.all_cons, Bool.and_eq_true] at h
    obtain ⟨h1, h2⟩ := ih h.2
    unfold tokW tokR at *
    rw [List.cons_append, List.takeWhile_cons, List.dropWhile_cons, h.1]
    simp only [if_true]
    rw [h1, h2]
    exact ⟨rfl, rfl⟩
theorem blank_app {P r : List UInt8} (hP : P.all isBlank = true) : blankL (P ++ r) = blankL r := by
  induction P with
  | nil => rfl
  | cons c P ih =>
    rw [List.all_cons, Bool.and_eq_true] at hP
    unfold blankL at *
    rw [List.cons_append, List.dropWhile_cons, hP.1]
    simp only [if_true]
    exact ih hP.2
theorem blank_none {c : UInt8} {r : List UInt8} (h : isBlank c = false) : blankL (c :: r) = c :: r := by
  unfold blankL
  rw [List.dropWhile_cons, h]
  rfl
theorem tokOk_parts {l : List UInt8} (h : tokOk l = true) : l.all inTok = true ∧ 1 ≤ l.length ∧ l.length ≤ 100 := by
  unfold tokOk at h
  rw [Bool.and_eq_true, Bool.and_eq_true] at h
  exact ⟨h.1, of_decide_eq_true h.2.1, of_decide_eq_true h.2.2⟩
theorem tokOk_cons {l : List UInt8} (h : tokOk l = true) : ∃ c r, l = c :: r ∧ inTok c = true := by
  obtain ⟨h1, h2, _⟩ := tokOk_parts h
  cases l with
  | nil => simp at h2
  | cons c r =>
    rw [List.all_cons, Bool.and_eq_true] at h1
    exact ⟨c, r, rfl, h1.1⟩
theorem blank_tokOk {l r : List UInt8} (h : tokOk l = true) : blankL (l ++ r) = l ++ r := by
  obtain ⟨c, l', rfl, hc⟩ := tokOk_cons h
  exact blank_none (tok_blank hc)
theorem value_back (v : ByteArray) {r : List UInt8} (hr : Stop r) : valueG (valT v ++ r) = some (v.data.toList, r) := by
  unfold valT
  split
  · next h =>
    obtain ⟨h1, h2⟩ := tok_app (tokOk_parts h).1 hr
    obtain ⟨c, l', e, hc⟩ := tokOk_cons h
    rw [valueG_tok (fun l1 e1 => by
      rw [e] at e1
      injection e1 with e2 e3
      rw [e2, inTok_34] at hc
      cases hc), h1, h2, if_pos h]
  · show valueG (34 :: (escL v.data.toList ++ [34] ++ r)) = _
    rw [valueG_mark, List.append_assoc]
    exact quoted_esc _ _ _
theorem param_back {Q n r : List UInt8} {v : ByteArray} (hQ : Q.all isBlank = true) (hn : tokOk n = true) (hr : Stop r) : paramG (59 :: (Q ++ (n ++ 61 :: (valT v ++ r)))) = some (⟨lowerS (ofL n), v, true⟩, blankL r) := by
  have hm : markG 59 (59 :: (Q ++ (n ++ 61 :: (valT v ++ r)))) false = (Q ++ (n ++ 61 :: (valT v ++ r)), false) := by simp [markG]
  have hb : blankL (Q ++ (n ++ 61 :: (valT v ++ r))) = n ++ 61 :: (valT v ++ r) := by rw [blank_app hQ, blank_tokOk hn]
  obtain ⟨t1, t2⟩ := tok_app (r := 61 :: (valT v ++ r)) (tokOk_parts hn).1 (Stop.cons inTok_61)
  have hN : nameG (59 :: (Q ++ (n ++ 61 :: (valT v ++ r)))) = n := by unfold nameG; rw [hm]; simp only; rw [hb, t1]
  have hB : backG (59 :: (Q ++ (n ++ 61 :: (valT v ++ r)))) = (valT v ++ r, false) := by
    unfold backG
    rw [hN, hm, hn]
    simp only
    rw [hb, t2]
    simp [markG]
  rw [param_good (by rw [hB]), hB, hN]
  simp only
  rw [value_back v hr]
  show some ((⟨lowerS (ofL n), ofL v.data.toList, true⟩ : It), blankL r) = _
  rw [ofL_list]
section
variable {P Q R : List UInt8} {f : ByteArray → List UInt8}
theorem body_cons (x : It) (l : List It) : bodyT P Q R f (x :: l) = P ++ (59 :: (Q ++ (f x.name ++ 61 :: (valT x.value ++ (R ++ bodyT P Q R f l))))) := by
  show (P ++ 59 :: (Q ++ (f x.name ++ 61 :: (valT x.value ++ R)))) ++ bodyT P Q R f l = _
  simp
theorem body_stop (hP : P.all isBlank = true) (l : List It) : Stop (bodyT P Q R f l) := by
  cases l with
  | nil => exact Stop.nil
  | cons x l =>
    rw [body_cons]
    exact Stop.app hP (Stop.cons inTok_59)
theorem par_back (hP : P.all isBlank = true) (hQ : Q.all isBlank = true) (hR : R.all isBlank = true) : ∀ (l acc : List It), (∀ x ∈ l, Gd f x.name ∧ x.has = true) → parR (blankL (bodyT P Q R f l)) acc = some (acc ++ l) := by
  intro l
  induction l with
  | nil => intro acc _; rw [show blankL (bodyT P Q R f []) = [] from rfl, parR_nil, List.append_nil]
  | cons x l ih =>
    intro acc h
    obtain ⟨⟨hx1, hx2⟩, hx3⟩ := h x (.head _)
    rw [body_cons, blank_app hP, blank_none (by decide +kernel), parR_some (by simp) (param_back hQ hx1 (Stop.app hR (body_stop hP l))), blank_app hR, ih _ (fun y hy => h y (.tail _ hy)), hx2]
    obtain ⟨xn, xv, xh⟩ := x
    simp only at hx3
    subst hx3
    simp
theorem whole_back (hP : P.all isBlank = true) (hQ : Q.all isBlank = true) (hR : R.all isBlank = true) {m : Md} (ht : Gd f m.type) (hs : Gd f m.sub) (hp : ∀ x ∈ m.params, Gd f x.name ∧ x.has = true) (h8 : m.params.length ≤ 8) (hd : dupN m.params = false) (hz : (wholeT P Q R f m).length ≤ 1000) : parseM (ofL (wholeT P Q R f m)) = .ok m := by
  obtain ⟨ht1, ht2⟩ := ht
  obtain ⟨hs1, hs2⟩ := hs
  have hL : blankL (ofL (wholeT P Q R f m)).data.toList = f m.type ++ 47 :: (f m.sub ++ bodyT P Q R f m.params) := by
    rw [ofL_list2]
    unfold wholeT
    rw [blank_app hP, blank_tokOk ht1]
  obtain ⟨t1, t2⟩ := tok_app (r := 47 :: (f m.sub ++ bodyT P Q R f m.params)) (tokOk_parts ht1).1 (Stop.cons inTok_47)
  obtain ⟨u1, u2⟩ := tok_app (r := bodyT P Q R f m.params) (tokOk_parts hs1).1 (body_stop hP m.params)
  have hT : headT (ofL (wholeT P Q R f m)) = f m.type := by unfold headT; rw [hL, t1]
  have hM : headM (ofL (wholeT P Q R f m)) = (f m.sub ++ bodyT P Q R f m.params, false) := by
    unfold headM
    rw [hL, hT, t2, ht1]
    simp [markG]
  have hS : headS (ofL (wholeT P Q R f m)) = f m.sub := by unfold headS; rw [hM]; exact u1
  have hR' : headR (ofL (wholeT P Q R f m)) = blankL (bodyT P Q R f m.params) := by unfold headR; rw [hM]; simp only; rw [u2]
  have hB : headB (ofL (wholeT P Q R f m)) = false := by unfold headB; rw [hM, hS, hs1]; rfl
  rw [parseM_ok (l := m.params) (by rw [ofL_size]; exact hz) hB (by rw [hR', par_back hP hQ hR _ _ hp]; rfl) (by omega) hd, hT, hS, ht2, hs2]
end
theorem tokOk_lower {l : List UInt8} (h : tokOk l = true) : tokOk (lowerL l) = true := by
  have key : ∀ c : UInt8, inTok c = true → inTok (lowerB c) = true := by
    intro c hc
    have : ∀ n : Fin 256, inTok (UInt8.ofNat n.1) = true → inTok (lowerB (UInt8.ofNat n.1)) = true := by decide +kernel
    have := this ⟨c.toNat, c.toNat_lt⟩
    simp only [UInt8.ofNat_toNat] at this
    exact this hc
  unfold tokOk lowerL at *
  rw [Bool.and_eq_true] at h
  rw [Bool.and_eq_true, List.length_map, List.all_map]
  refine ⟨?_, h.2⟩
  rw [List.all_eq_true] at h ⊢
  intro x hx
  exact key x (h.1 x hx)
theorem gd_lower {l : List UInt8} (h : tokOk l = true) : Gd (fun b => b.data.toList) (lowerS (ofL l)) := by
  refine ⟨?_, ?_⟩
  · show tokOk (lowerL (ofL l).data.toList) = true
    rw [ofL_list2]
    exact tokOk_lower h
  · show lowerS (ofL (lowerS (ofL l)).data.toList) = _
    rw [ofL_list, lowerS_idem]
theorem paramG_good {l r : List UInt8} {x : It} (h : paramG l = some (x, r)) : Gd (fun b => b.data.toList) x.name ∧ x.has = true := by
  have hb : (backG l).2 = false := by
    cases hh : (backG l).2 with
    | false => rfl
    | true => rw [param_bad hh] at h; cases h
  have hn : tokOk (nameG l) = true := by
    cases hh : tokOk (nameG l) with
    | true => rfl
    | false =>
      unfold backG at hb
      rw [hh, show ((markG 59 l false).2 || !false) = true by simp, markG_bad] at hb
      cases hb
  rw [param_good hb] at h
  cases hv : valueG (backG l).1 with
  | none => rw [hv] at h; cases h
  | some z =>
    rw [hv] at h
    simp only [Option.map_some, Option.some.injEq, Prod.mk.injEq] at h
    obtain ⟨rfl, _⟩ := h
    exact ⟨gd_lower hn, rfl⟩
theorem paramsG_good : ∀ (n : Nat) (l : List UInt8) (acc r : List It), (∀ x ∈ acc, Gd (fun b => b.data.toList) x.name ∧ x.has = true) → paramsG n l acc = some r → ∀ x ∈ r, Gd (fun b => b.data.toList) x.name ∧ x.has = true := by
  intro n
  induction n with
  | zero =>
    intro l acc r ha h
    rw [paramsG] at h
    split at h
    · cases h; exact ha
    · cases h
  | succ n ih =>
    intro l acc r ha h
    rw [paramsG] at h
    split at h
    · cases h; exact ha
    · cases hp : paramG l with
      | none => rw [hp] at h; cases h
      | some y =>
        rw [hp] at h
        refine ih y.2 _ r (fun x hx => ?_) h
        rcases List.mem_append.1 hx with hx | hx
        · exact ha x hx
        · simp at hx
          subst hx
          exact paramG_good (x := y.1) (r := y.2) hp
theorem parseM_good {s : ByteArray} {m : Md} (h : parseM s = .ok m) : Gd (fun b => b.data.toList) m.type ∧ Gd (fun b => b.data.toList) m.sub ∧ (∀ x ∈ m.params, Gd (fun b => b.data.toList) x.name ∧ x.has = true) ∧ m.params.length ≤ 8 ∧ dupN m.params = false := by
  unfold parseM at h
  split at h
  · cases h
  · split at h
    · cases h
    · next hB =>
      have hB' : headB s = false := by cases hh : headB s with | false => rfl | true => exact absurd hh hB
      unfold headB at hB'
      rw [Bool.or_eq_false_iff] at hB'
      have hs : tokOk (headS s) = true := by simpa using hB'.2
      have ht : tokOk (headT s) = true := by
        cases hh : tokOk (headT s) with
        | true => rfl
        | false =>
          have h1 := hB'.1
          unfold headM at h1
          rw [hh, show (!false) = true from rfl, markG_bad] at h1
          cases h1
      split at h
      · cases h
      · next l hp =>
        split at h
        · cases h
        · next h8 =>
          split at h
          · cases h
          · next hd =>
            cases h
            refine ⟨gd_lower ht, gd_lower hs, ?_, (by show l.length ≤ 8; omega), ?_⟩
            · exact paramsG_good _ _ [] _ (fun x hx => by cases hx) hp
            · show dupN l = false
              simpa using hd
theorem text_back {s : ByteArray} {m : Md} (h : parseM s = .ok m) (hz : (mtxt m).length ≤ 1000) : parseM (ofL (mtxt m)) = .ok m := by
  obtain ⟨h1, h2, h3, h4, h5⟩ := parseM_good h
  exact whole_back (by rfl) (by decide) (by rfl) h1 h2 h3 h4 h5 hz
/-- A text in great letters. -/
def upL (b : ByteArray) : List UInt8 := greatL b.data.toList
theorem up_tok (c : UInt8) (h : inTok c = true) : inTok (greatB c) = true := by
  have : ∀ n : Fin 256, inTok (UInt8.ofNat n.1) = true → inTok (greatB (UInt8.ofNat n.1)) = true := by decide +kernel
  have := this ⟨c.toNat, c.toNat_lt⟩
  simp only [UInt8.ofNat_toNat] at this
  exact this h
theorem gd_up {b : ByteArray} (h : Gd (fun b => b.data.toList) b) : Gd upL b := by
  obtain ⟨h1, h2⟩ := h
  refine ⟨?_, ?_⟩
  · unfold upL greatL
    unfold tokOk at h1 ⊢
    rw [Bool.and_eq_true] at h1
    rw [Bool.and_eq_true, List.length_map, List.all_map]
    refine ⟨?_, h1.2⟩
    rw [List.all_eq_true] at h1 ⊢
    intro x hx
    exact up_tok x (h1.1 x hx)
  · rw [ofL_list] at h2
    show lowerS (greatS b) = b
    rw [lowerS_great, h2]
theorem cases_back {s : ByteArray} {m : Md} {P : List UInt8} (h : parseM s = .ok m) (hP : P.all isBlank = true) (hz : (wholeT P P P upL m).length ≤ 1000) : parseM (ofL (wholeT P P P upL m)) = .ok m := by
  obtain ⟨h1, h2, h3, h4, h5⟩ := parseM_good h
  exact whole_back hP hP hP (gd_up h1) (gd_up h2) (fun x hx => ⟨gd_up (h3 x hx).1, (h3 x hx).2⟩) h4 h5 hz
end Go.Proofs.YtndppcklpcfikaaGreatDoor

/- A kind's text, part by part: plain facts. -/
namespace Go.Proofs.YtndppcklpcfikaaGreatDoor
open Go.RowKit

/-- One parameter, as it stands in a text. -/
def oneT (x : It) : List UInt8 := 59 :: 32 :: (x.name.data.toList ++ 61 :: valT x.value)
/-- A kind's text with the first parameters. -/
def txS (a b : ByteArray) (l : List It) (i : Nat) : List UInt8 := a.data.toList ++ 47 :: (b.data.toList ++ (l.take i).flatMap oneT)
theorem txS_zero (a b : ByteArray) (l : List It) : txS a b l 0 = a.data.toList ++ 47 :: b.data.toList := by unfold txS; simp
theorem txS_all (a b : ByteArray) (l : List It) : txS a b l l.length = mtxt ⟨a, b, l⟩ := by
  unfold txS mtxt wholeT bodyT
  rw [List.take_of_length_le (Nat.le_refl _)]
  have h1 : oneT = fun x : It => ([] : List UInt8) ++ 59 :: ([32] ++ (x.name.data.toList ++ 61 :: (valT x.value ++ []))) := by funext x; simp [oneT]
  rw [h1]
  rfl
theorem txS_step {a b : ByteArray} {l : List It} {i : Nat} {x : It} (h : l[i]? = some x) : txS a b l (i + 1) = txS a b l i ++ oneT x := by
  unfold txS
  rw [List.take_add_one, h]
  simp
theorem valT_len (v : ByteArray) : (valT v).length ≤ 2 * v.size + 2 := by
  have hL : v.data.toList.length = v.size := rfl
  unfold valT
  split
  · omega
  · have := escL_len v.data.toList
    simp; omega
theorem oneT_len {x : It} (h : x.name.size ≤ 1000 ∧ x.value.size ≤ 1000) : (oneT x).length ≤ 3100 := by
  have hL : x.name.data.toList.length = x.name.size := rfl
  have := valT_len x.value
  unfold oneT
  simp; omega
theorem ones_len : ∀ l : List It, (∀ x ∈ l, x.name.size ≤ 1000 ∧ x.value.size ≤ 1000) → (l.flatMap oneT).length ≤ 3100 * l.length := by
  intro l
  induction l with
  | nil => intro _; simp
  | cons x l ih =>
    intro h
    have h1 := oneT_len (h x (.head _))
    have h2 := ih fun y hy => h y (.tail _ hy)
    rw [List.flatMap_cons, List.length_append, List.length_cons]
    omega
theorem txS_len {a b : ByteArray} {l : List It} {i : Nat} (ha : a.size ≤ 1000) (hb : b.size ≤ 1000) (hl : l.length ≤ 30) (hz : ∀ x ∈ l, x.name.size ≤ 1000 ∧ x.value.size ≤ 1000) : (txS a b l i).length ≤ 100000 := by
  have hA : a.data.toList.length = a.size := rfl
  have hB : b.data.toList.length = b.size := rfl
  have h1 := ones_len (l.take i) fun x hx => hz x (List.mem_of_mem_take hx)
  have h2 : (l.take i).length ≤ 30 := by rw [List.length_take]; omega
  have h3 := Nat.mul_le_mul_left 3100 h2
  unfold txS
  simp only [List.length_append, List.length_cons]
  omega
theorem ofL_toList (s : ByteArray) : s = ofL s.data.toList := (ofL_list s).symm
end Go.Proofs.YtndppcklpcfikaaGreatDoor

/- The reference of chapter 17: within, Token, token, blank, quoted. -/
namespace Go.Proofs.YtndppcklpcfikaaGreatDoor
open Go.RowKit

def signS : ByteArray := ⟨#[33, 35, 36, 37, 38, 39, 42, 43, 45, 46, 94, 95, 124, 126]⟩
theorem inTok_is (c : UInt8) : inTok c = ((decide (97 ≤ smallN c.toNat) && decide (smallN c.toNat ≤ 122)) || ((decide (48 ≤ c.toNat) && decide (c.toNat ≤ 57)) || (decide (c.toNat = 96) || hasB signS c))) := by
  have : ∀ n : Fin 256, inTok (UInt8.ofNat n.1) = ((decide (97 ≤ smallN (UInt8.ofNat n.1).toNat) && decide (smallN (UInt8.ofNat n.1).toNat ≤ 122)) || ((decide (48 ≤ (UInt8.ofNat n.1).toNat) && decide ((UInt8.ofNat n.1).toNat ≤ 57)) || (decide ((UInt8.ofNat n.1).toNat = 96) || hasB signS (UInt8.ofNat n.1)))) := by decide +kernel
  have h := this ⟨c.toNat, c.toNat_lt⟩
  simpa using h
set_option maxHeartbeats 1600000 in
set_option maxRecDepth 100000 in
theorem ref_within (c : UInt8) (w : World) : Calls Tryz.prog 42 #[.int .u8 (c.toNat : Int)] w fun e w' => e = .returned (.bool (inTok c)) ∧ w = w' := by
  have cS := Lib.hid (fun W => ref_Small c.toNat c.toNat_lt W)
  have cH := Lib.hid (fun W => ref_Has signS c W (by decide))
  have hin := inTok_is c
  have hsm : smallN c.toNat = c.toNat ∨ (65 ≤ c.toNat ∧ c.toNat ≤ 90 ∧ smallN c.toNat = c.toNat + 32) := by unfold smallN; split <;> omega
  generalize smallN c.toNat = m at *
  generalize hasB signS c = hb at *
  have HIN := Lib.hid hin
  clear hin
  by_cases h1 : 97 ≤ m
  · by_cases h2 : m ≤ 122
    · have d1 : (97 : Int) ≤ (m : Int) := by omega
      have d2 : decide ((m : Int) ≤ 122) = true := decide_eq_true (by omega)
      have hf : inTok c = true := by rw [HIN.out, decide_eq_true h1, decide_eq_true h2]; rfl
      have HF := Lib.hid hf
      clear hf h1 h2 hsm
      go_enter Tryz.func42, Tryz.ntmps42
      go_wp2_with fail
      refine (cS.out _).mono ?_
      rintro e w2 ⟨rfl, rfl⟩
      go_wp2_with fail
      go_ret
      exact ⟨ret_bool HF.out.symm, rfl⟩
    · have d1 : (97 : Int) ≤ (m : Int) := by omega
      have d2 : decide ((m : Int) ≤ 122) = false := decide_eq_false (by omega)
      have d3 : (48 : Int) ≤ (c.toNat : Int) := by omega
      have d4 : decide ((c.toNat : Int) ≤ 57) = false := decide_eq_false (by omega)
      have d5 : ((c.toNat : Int) == 96) = false := by rw [beq_eq_false_iff_ne]; omega
      have hf : inTok c = hb := by rw [HIN.out, decide_eq_false h2, decide_eq_false (by omega : ¬ c.toNat ≤ 57), decide_eq_false (by omega : ¬ c.toNat = 96)]; simp
      have HF := Lib.hid hf
      clear hf h1 h2 hsm
      go_enter Tryz.func42, Tryz.ntmps42
      go_wp2_with fail
      refine (cS.out _).mono ?_
      rintro e w2 ⟨rfl, rfl⟩
      go_wp2_with fail
      refine (cH.out _).mono ?_
      rintro e w2 ⟨rfl, rfl⟩
      go_wp2_with fail
      go_ret
      exact ⟨ret_bool HF.out.symm, rfl⟩
  · have d1 : decide ((97 : Int) ≤ (m : Int)) = false := decide_eq_false (by omega)
    have d1' : ¬ (97 : Int) ≤ (m : Int) := by omega
    by_cases h3 : 48 ≤ c.toNat
    · have d3 : (48 : Int) ≤ (c.toNat : Int) := by omega
      by_cases h4 : c.toNat ≤ 57
      · have d4 : decide ((c.toNat : Int) ≤ 57) = true := decide_eq_true (by omega)
        have hf : inTok c = true := by rw [HIN.out, decide_eq_true h3, decide_eq_true h4]; simp
        have HF := Lib.hid hf
        clear hf h1 h3 h4 hsm
        go_enter Tryz.func42, Tryz.ntmps42
        go_wp2_with fail
        refine (cS.out _).mono ?_
        rintro e w2 ⟨rfl, rfl⟩
        go_wp2_with fail
        go_ret
        exact ⟨ret_bool HF.out.symm, rfl⟩
      · have d4 : decide ((c.toNat : Int) ≤ 57) = false := decide_eq_false (by omega)
        by_cases h5 : c.toNat = 96
        · have d5 : ((c.toNat : Int) == 96) = true := by rw [beq_iff_eq]; omega
          have hf : inTok c = true := by rw [HIN.out, decide_eq_true h5]; simp
          have HF := Lib.hid hf
          clear hf h1 h3 h4 h5 hsm
          go_enter Tryz.func42, Tryz.ntmps42
          go_wp2_with fail
          refine (cS.out _).mono ?_
          rintro e w2 ⟨rfl, rfl⟩
          go_wp2_with fail
          go_ret
          exact ⟨ret_bool HF.out.symm, rfl⟩
        · have d5 : ((c.toNat : Int) == 96) = false := by rw [beq_eq_false_iff_ne]; omega
          have hf : inTok c = hb := by rw [HIN.out, decide_eq_false h1, decide_eq_false h4, decide_eq_false h5]; simp
          have HF := Lib.hid hf
          clear hf h1 h3 h4 h5 hsm
          go_enter Tryz.func42, Tryz.ntmps42
          go_wp2_with fail
          refine (cS.out _).mono ?_
          rintro e w2 ⟨rfl, rfl⟩
          go_wp2_with fail
          refine (cH.out _).mono ?_
          rintro e w2 ⟨rfl, rfl⟩
          go_wp2_with fail
          go_ret
          exact ⟨ret_bool HF.out.symm, rfl⟩
    · have d3 : decide ((48 : Int) ≤ (c.toNat : Int)) = false := decide_eq_false (by omega)
      have d5 : ((c.toNat : Int) == 96) = false := by rw [beq_eq_false_iff_ne]; omega
      have hf : inTok c = hb := by rw [HIN.out, decide_eq_false h1, decide_eq_false h3, decide_eq_false (by omega : ¬ c.toNat = 96)]; simp
      have HF := Lib.hid hf
      clear hf h1 h3 hsm
      go_enter Tryz.func42, Tryz.ntmps42
      go_wp2_with fail
      refine (cS.out _).mono ?_
      rintro e w2 ⟨rfl, rfl⟩
      go_wp2_with fail
      refine (cH.out _).mono ?_
      rintro e w2 ⟨rfl, rfl⟩
      go_wp2_with fail
      go_ret
      exact ⟨ret_bool HF.out.symm, rfl⟩
set_option maxHeartbeats 1600000 in
set_option maxRecDepth 100000 in
theorem ref17_Token (s : ByteArray) (w : World) (hs : s.size ≤ 16777216) : Calls Tryz.prog 20 #[.string s] w fun e w' => e = .returned (.bool (tokOk s.data.toList)) ∧ w = w' := by
  have HF := Lib.hid (@tokOk_all s)
  have HNO := Lib.hid (fun i => @tokOk_no s i)
  have cI := Lib.hid ref_within
  go_enter Tryz.func20, Tryz.ntmps20
  go_wp2_with fail
  go_loopw [3] (fun x wr => ∃ i : Nat, i ≤ s.size ∧ x = .int .i64 i ∧ w = wr ∧ ∀ j, j < i → inTok (byteAt s j) = true) (fun x _ => s.size - (intOf x).toNat)
  case atStart => exact ⟨0, Nat.zero_le _, rfl, rfl, fun j hj => by omega⟩
  case round =>
    obtain ⟨i, hil, rfl, rfl, hall⟩ := hrel
    have HA := Lib.hid hall
    clear hall
    by_cases hlt : i < s.size
    · have hbi := byteAt_ix hlt
      have hst : inTok s[i] = true → ∀ j, j < i + 1 → inTok (byteAt s j) = true := fun h j hj => by
        by_cases hji : j = i
        · subst hji; rw [hbi]; exact h
        · exact HA.out j (by omega)
      have hn2 := fun h => HNO.out i hlt (hbi ▸ h)
      have HST := Lib.hid hst
      have HN2 := Lib.hid hn2
      have cW := Lib.hid (cI.out s[i])
      clear hst hn2 hbi
      go_wp2_with fail
      refine (cW.out _).mono ?_
      rintro e w2 ⟨rfl, rfl⟩
      cases hin : inTok (s[i]'hlt)
      · have HX := Lib.hid (HN2.out hin)
        clear hin
        go_wp2_with fail
        go_ret
        exact ⟨ret_bool HX.out.symm, rfl⟩
      · have HX := Lib.hid (HST.out hin)
        clear hin
        go_wp2_with fail
        go_roundw
        case rel => exact ⟨i + 1, by omega, by go_num, by trivial, HX.out⟩
        case measure => simp [intOf]; omega
    · obtain rfl : i = s.size := by omega
      have hr := HF.out HA.out
      have HR := Lib.hid hr
      clear hr
      by_cases h1 : 1 ≤ s.size
      · have d1 : (1 : Int) ≤ (s.size : Int) := by omega
        have hd : decide ((s.size : Int) ≤ 100) = decide (s.size ≤ 100) := decide_eq_decide.2 (by omega)
        have HD := Lib.hid hd
        have HH := Lib.hid h1
        clear hd h1
        go_wp2_with fail
        go_ret
        exact ⟨ret_bool (by rw [HR.out, HD.out, decide_eq_true HH.out]; rfl), rfl⟩
      · have d1 : decide ((1 : Int) ≤ (s.size : Int)) = false := decide_eq_false (by omega)
        have HH := Lib.hid h1
        clear h1
        go_wp2_with fail
        go_ret
        exact ⟨ret_bool (by rw [HR.out, decide_eq_false HH.out]; rfl), rfl⟩
end Go.Proofs.YtndppcklpcfikaaGreatDoor
