/- All parameters of a text: plain facts. -/
import Derived.Test.YtndppcklpcfikaaGreatDoorMediaCasesM6
import Derived.Test.YtndppcklpcfikaaGreatDoorMediaCasesM1
import Derived.Lib.SlTrimSet
import Derived.Test.YtndppcklpcfikaaGreatDoorMediaCasesM2

namespace Go.Proofs.YtndppcklpcfikaaGreatDoor
open Go.RowKit

theorem quotedG_len : ∀ (n : Nat) (l out v r : List UInt8), l.length ≤ n → quotedG l out = some (v, r) → r.length < l.length + 1 := by
  intro n
  induction n with
  | zero =>
    intro l out v r hl h
    have : l = [] := List.eq_nil_of_length_eq_zero (by omega)
    subst this
    simp [quotedG] at h
  | succ n ih =>
    intro l out v r hl h
    cases l with
    | nil => simp [quotedG] at h
    | cons c l =>
      by_cases hc : c = 34
      · rw [quotedG_end hc] at h; cases h; simp; omega
      · by_cases hc2 : c = 92
        · subst hc2
          cases l with
          | nil => rw [quotedG_esc0] at h; cases h
          | cons d l =>
            rw [quotedG_esc] at h
            have := ih _ _ _ _ (by simp at hl; omega) h
            simp; omega
        · rw [quotedG_step hc hc2] at h
          have := ih _ _ _ _ (by simp at hl; omega) h
          simp; omega
theorem paramG_len {l r : List UInt8} {x : It} (h : paramG l = some (x, r)) : r.length < l.length := by
  have hb : (backG l).2 = false := by
    cases hh : (backG l).2 with
    | false => rfl
    | true => rw [param_bad hh] at h; cases h
  rw [param_good hb] at h
  cases hv : valueG (backG l).1 with
  | none => rw [hv] at h; cases h
  | some y =>
    rw [hv] at h
    simp only [Option.map_some, Option.some.injEq, Prod.mk.injEq] at h
    rw [← h.2]
    have h1 := blankL_len y.2
    have h2 : y.2.length ≤ (backG l).1.length := by
      generalize (backG l).1 = l4 at *
      by_cases hq : ∃ l', l4 = 34 :: l'
      · obtain ⟨l', rfl⟩ := hq
        rw [valueG_mark] at hv
        have := quotedG_len _ _ _ y.1 y.2 (Nat.le_refl _) hv
        simp; omega
      · rw [valueG_tok (fun l' e => hq ⟨l', e⟩)] at hv
        split at hv
        · cases hv; exact tokR_len l4
        · cases hv
    have h3 : (backG l).1.length < l.length := by
      have hb' := hb
      unfold backG at hb' ⊢
      have h4 := markG_len 61 (tokR (blankL (markG 59 l false).1)) ((markG 59 l false).2 || !tokOk (nameG l))
      have h5 := tokR_len (blankL (markG 59 l false).1)
      have h6 := blankL_len (markG 59 l false).1
      have h7 : (markG 59 l false).1.length < l.length := by
        cases h8 : (markG 59 l false).2 with
        | true => rw [h8] at hb'; simp only [Bool.true_or] at hb'; rw [markG_bad] at hb'; cases hb'
        | false =>
          unfold markG at h8 ⊢
          cases l with
          | nil => simp at h8
          | cons z l =>
            by_cases hz : z = 59
            · simp [hz]
            · simp [hz] at h8
      omega
    omega
theorem paramsG_more : ∀ (n m : Nat) (l : List UInt8) (acc : List It), l.length ≤ n → l.length ≤ m → paramsG n l acc = paramsG m l acc := by
  intro n
  induction n with
  | zero =>
    intro m l acc hn hm
    have : l = [] := List.eq_nil_of_length_eq_zero (by omega)
    subst this
    cases m <;> simp [paramsG]
  | succ n ih =>
    intro m l acc hn hm
    cases m with
    | zero =>
      have : l = [] := List.eq_nil_of_length_eq_zero (by omega)
      subst this
      simp [paramsG]
    | succ m =>
      rw [paramsG, paramsG]
      split
      · rfl
      · cases h : paramG l with
        | none => rfl
        | some y =>
          have := paramG_len h
          exact ih m y.2 _ (by omega) (by omega)
/-- All parameters, behind those that there are. -/
def parR (l : List UInt8) (acc : List It) : Option (List It) := paramsG l.length l acc
theorem parR_nil {acc : List It} : parR [] acc = some acc := by simp [parR, paramsG]
theorem parR_none {l : List UInt8} {acc : List It} (hne : l ≠ []) (h : paramG l = none) : parR l acc = none := by
  unfold parR
  cases l with
  | nil => exact absurd rfl hne
  | cons x l => rw [List.length_cons, paramsG, if_neg hne, h]
theorem parR_some {l r : List UInt8} {acc : List It} {x : It} (hne : l ≠ []) (h : paramG l = some (x, r)) : parR l acc = parR r (acc ++ [x]) := by
  have hl := paramG_len h
  unfold parR
  cases l with
  | nil => exact absurd rfl hne
  | cons z l =>
    rw [List.length_cons, paramsG, if_neg hne, h]
    exact paramsG_more _ _ _ _ (by simp at hl; omega) (Nat.le_refl _)
/-- Is a name there twice? (The first place at which one stands that stood before.) -/
def dupN (l : List It) : Bool := (List.range l.length).any fun i => (l.take i).any fun x => decide (x.name = (l.getD i ⟨ByteArray.empty, ByteArray.empty, false⟩).name)
/-- A text's head: type, subtype, what is behind them; is it wrong? -/
def headT (s : ByteArray) : List UInt8 := tokW (blankL s.data.toList)
def headM (s : ByteArray) : List UInt8 × Bool := markG 47 (tokR (blankL s.data.toList)) (!tokOk (headT s))
def headS (s : ByteArray) : List UInt8 := tokW (headM s).1
def headR (s : ByteArray) : List UInt8 := blankL (tokR (headM s).1)
def headB (s : ByteArray) : Bool := (headM s).2 || !tokOk (headS s)
structure Md where
  type : ByteArray
  sub : ByteArray
  params : List It
/-- A text's kind of content, or the error's kind and place. -/
def parseM (s : ByteArray) : Except (Nat × Nat) Md :=
  if 1000 < s.size then .error (14, 1000) else if headB s = true then .error (11, 0) else
  match parR (headR s) [] with
  | none => .error (11, 0)
  | some l => if 8 < l.length then .error (15, 0) else if dupN l = true then .error (31, 0) else .ok ⟨lowerS (ofL (headT s)), lowerS (ofL (headS s)), l⟩
theorem parseM_bad {s : ByteArray} (hs : s.size ≤ 1000) (h : headB s = true) : parseM s = .error (11, 0) := by unfold parseM; rw [if_neg (by omega), if_pos h]
theorem parseM_none {s : ByteArray} (hs : s.size ≤ 1000) (h : headB s = false) (h2 : parR (headR s) [] = none) : parseM s = .error (11, 0) := by unfold parseM; rw [if_neg (by omega), if_neg (by rw [h]; decide), h2]
theorem parseM_many {s : ByteArray} {l : List It} (hs : s.size ≤ 1000) (h : headB s = false) (h2 : parR (headR s) [] = some l) (h3 : 8 < l.length) : parseM s = .error (15, 0) := by unfold parseM; rw [if_neg (by omega), if_neg (by rw [h]; decide), h2]; exact if_pos h3
theorem parseM_dup {s : ByteArray} {l : List It} (hs : s.size ≤ 1000) (h : headB s = false) (h2 : parR (headR s) [] = some l) (h3 : ¬ 8 < l.length) (h4 : dupN l = true) : parseM s = .error (31, 0) := by unfold parseM; rw [if_neg (by omega), if_neg (by rw [h]; decide), h2]; simp only [if_neg h3, if_pos h4]
theorem parseM_ok {s : ByteArray} {l : List It} (hs : s.size ≤ 1000) (h : headB s = false) (h2 : parR (headR s) [] = some l) (h3 : ¬ 8 < l.length) (h4 : dupN l = false) : parseM s = .ok ⟨lowerS (ofL (headT s)), lowerS (ofL (headS s)), l⟩ := by unfold parseM; rw [if_neg (by omega), if_neg (by rw [h]; decide), h2]; simp only [if_neg h3, h4]; rfl
theorem dupN_yes {l : List It} {i : Nat} {x : It} (h : l[i]? = some x) (h2 : ((l.take i).any fun y => decide (y.name = x.name)) = true) : dupN l = true := by
  unfold dupN
  rw [List.any_eq_true]
  refine ⟨i, List.mem_range.2 (List.getElem?_eq_some_iff.1 h).1, ?_⟩
  rw [List.getD, h]
  exact h2
theorem dupN_no {l : List It} (h : ∀ (i : Nat) (x : It), l[i]? = some x → ((l.take i).any fun y => decide (y.name = x.name)) = false) : dupN l = false := by
  unfold dupN
  rw [List.any_eq_false]
  intro i hi
  have hi := List.mem_range.1 hi
  have := h i _ (List.getElem?_eq_getElem hi)
  rw [List.getD, List.getElem?_eq_getElem hi]
  simpa using this
end Go.Proofs.YtndppcklpcfikaaGreatDoor

/- Plain facts: a text without blanks around it. -/
namespace Go.Proofs.YtndppcklpcfikaaGreatDoor
open Go.RowKit

def blanks : ByteArray := ⟨#[32, 9, 10, 13]⟩
theorem blanks_has (c : UInt8) : ([32, 9, 10, 13] : List UInt8).contains c = hasB blanks c := by
  have : ∀ n : Fin 256, ([32, 9, 10, 13] : List UInt8).contains (UInt8.ofNat n.1) = hasB blanks (UInt8.ofNat n.1) := by decide +kernel
  have h := this ⟨c.toNat, c.toNat_lt⟩
  simpa using h
/-- A text without blanks around it. -/
def trimS (s : ByteArray) : ByteArray := ⟨(Lib.trimS s.data.toList [32, 9, 10, 13]).toArray⟩

theorem at_byte {s : ByteArray} {j : Nat} {b : UInt8} (h : s.data.toList[j]? = some b) : j < s.size ∧ byteAt s j = b := by
  have hl : s.data.toList.length = s.size := rfl
  have hlt := (List.getElem?_eq_some_iff.1 h).1
  refine ⟨by omega, ?_⟩
  unfold byteAt
  rw [List.getD, h]; rfl

theorem trim_is {s : ByteArray} {a b : Nat} (hab : a ≤ b) (hb : b ≤ s.size) (h1 : ∀ j, j < a → hasB blanks (byteAt s j) = true) (h2 : ∀ j, b ≤ j → j < s.size → hasB blanks (byteAt s j) = true)
    (h3 : a < b → hasB blanks (byteAt s a) = false) (h4 : a < b → hasB blanks (byteAt s (b - 1)) = false) : trimS s = s.extract a b := by
  have hl : s.data.toList.length = s.size := rfl
  unfold trimS Lib.trimS
  rw [Lib.extract_eq]
  by_cases hlt : a < b
  · rw [Lib.trimRightS_take _ _ b (by omega) (fun j c hj hc => by
      obtain ⟨h5, h6⟩ := at_byte hc
      rw [blanks_has, ← h6]; exact h2 j hj h5) (fun c _ hc => by
      obtain ⟨h5, h6⟩ := at_byte hc
      rw [blanks_has, ← h6]; exact h4 hlt)]
    rw [Lib.trimLeftS_drop _ _ a (by simp; omega) (fun j c hj hc => by
      rw [List.getElem?_take, if_pos (by omega)] at hc
      obtain ⟨h5, h6⟩ := at_byte hc
      rw [blanks_has, ← h6]; exact h1 j hj) (fun c hc => by
      rw [List.getElem?_take, if_pos hlt] at hc
      obtain ⟨h5, h6⟩ := at_byte hc
      rw [blanks_has, ← h6]; exact h3 hlt)]
    rw [List.drop_take]
  · obtain rfl : a = b := by omega
    rw [Lib.trimRightS_take _ _ 0 (Nat.zero_le _) (fun j c hj hc => by
      obtain ⟨h5, h6⟩ := at_byte hc
      rw [blanks_has, ← h6]
      by_cases hja : j < a
      · exact h1 j hja
      · exact h2 j (by omega) h5) (fun c h0 _ => absurd h0 (Nat.lt_irrefl 0))]
    simp [Lib.trimLeftS]
end Go.Proofs.YtndppcklpcfikaaGreatDoor

/- Plain facts: great letters, blanks around a text. -/
namespace Go.Proofs.YtndppcklpcfikaaGreatDoor
open Go.RowKit

def greatB (b : UInt8) : UInt8 := if 97 ≤ b.toNat ∧ b.toNat ≤ 122 then b - 32 else b
theorem greatB_nat (b : UInt8) (h1 : 97 ≤ b.toNat) (h2 : b.toNat ≤ 122) : (greatB b).toNat = b.toNat - 32 := by
  unfold greatB
  rw [if_pos ⟨h1, h2⟩]
  rw [UInt8.toNat_sub_of_le _ _ (by rw [UInt8.le_iff_toNat_le]; show 32 ≤ _; omega)]
  rfl
theorem low_great (b : UInt8) : lowerB (greatB b) = lowerB b := by
  have : ∀ n : Fin 256, lowerB (greatB (UInt8.ofNat n.1)) = lowerB (UInt8.ofNat n.1) := by decide +kernel
  have h := this ⟨b.toNat, b.toNat_lt⟩
  simpa using h
def greatL (l : List UInt8) : List UInt8 := l.map greatB
def greatS (s : ByteArray) : ByteArray := ⟨(greatL s.data.toList).toArray⟩
theorem greatS_size (s : ByteArray) : (greatS s).size = s.size := by
  show (greatL s.data.toList).toArray.size = s.data.toList.length
  simp [greatL]
theorem lowerS_great (s : ByteArray) : lowerS (greatS s) = lowerS s := by
  unfold lowerS lowerL greatS greatL
  apply ByteArray.ext
  apply Array.ext'
  show (s.data.toList.map greatB).map lowerB = s.data.toList.map lowerB
  rw [List.map_map]
  exact List.map_congr_left fun x _ => low_great x
/-- So far great letters. -/
def greatTo (s : ByteArray) (i : Nat) : List UInt8 := greatL (s.data.toList.take i) ++ s.data.toList.drop i
theorem greatTo_len (s : ByteArray) (i : Nat) : (greatTo s i).length = s.size := by
  have hl : s.data.toList.length = s.size := rfl
  simp [greatTo, greatL]; omega
theorem greatTo_zero (s : ByteArray) : greatTo s 0 = s.data.toList := by simp [greatTo, greatL]
theorem greatTo_all (s : ByteArray) : greatTo s s.size = (greatS s).data.toList := by
  have hl : s.data.toList.length = s.size := rfl
  show greatL (s.data.toList.take s.size) ++ s.data.toList.drop s.size = greatL s.data.toList
  rw [List.take_of_length_le (by omega), List.drop_eq_nil_of_le (by omega), List.append_nil]
theorem greatTo_at {s : ByteArray} {i : Nat} (hi : i < s.size) : (greatTo s i).getD i 0 = byteAt s i := by
  have hl : s.data.toList.length = s.size := rfl
  have h1 : (greatL (s.data.toList.take i)).length = i := by simp [greatL]; omega
  unfold greatTo byteAt
  simp only [List.getD, List.getElem?_append, h1, Nat.lt_irrefl, if_false, Nat.sub_self, List.getElem?_drop, Nat.add_zero]
theorem greatTo_set {s : ByteArray} {i : Nat} (hi : i < s.size) : (greatTo s i).set i (greatB (byteAt s i)) = greatTo s (i + 1) := by
  have hl : s.data.toList.length = s.size := rfl
  have hlt : i < s.data.toList.length := by omega
  have h1 : (greatL (s.data.toList.take i)).length = i := by simp [greatL]; omega
  have hb : byteAt s i = s.data.toList[i] := by unfold byteAt; rw [List.getD, List.getElem?_eq_getElem hlt]; rfl
  unfold greatTo
  rw [List.set_append_right _ _ (by rw [h1]; exact Nat.le_refl _), h1, Nat.sub_self, List.drop_eq_getElem_cons hlt, List.set_cons_zero, List.take_succ_eq_append_getElem hlt, hb]
  simp [greatL]
theorem greatTo_keep {s : ByteArray} {i : Nat} (hi : i < s.size) (h : greatB (byteAt s i) = byteAt s i) : greatTo s (i + 1) = greatTo s i := by
  rw [← greatTo_set hi, h]
  have h2 := greatTo_at hi
  have hll : i < (greatTo s i).length := by rw [greatTo_len]; exact hi
  apply List.ext_getElem?
  intro j
  rw [List.getElem?_set]
  split
  · rename_i e
    subst e
    rw [← h2, List.getD, List.getElem?_eq_getElem hll]; rfl
  · rfl

theorem dropWhile_pre (p : UInt8 → Bool) (a b : List UInt8) (h : ∀ x ∈ a, p x = true) : (a ++ b).dropWhile p = b.dropWhile p := by
  induction a with
  | nil => rfl
  | cons x a ih =>
    rw [List.cons_append, List.dropWhile_cons_of_pos (h x (by simp))]
    exact ih fun y hy => h y (by simp [hy])
theorem dropWhile_post (p : UInt8 → Bool) (a b : List UInt8) (h : ∀ x ∈ b, p x = true) : (a ++ b).dropWhile p = if a.dropWhile p = [] then [] else a.dropWhile p ++ b := by
  rw [List.dropWhile_append]
  by_cases he : a.dropWhile p = []
  · rw [if_pos (by rw [he]; rfl), if_pos he]
    have := dropWhile_pre p b [] h
    simpa using this
  · rw [if_neg (by rw [List.isEmpty_iff]; exact he), if_neg he]
theorem trim_around (cs p l : List UInt8) (h : ∀ x ∈ p, cs.contains x = true) : Lib.trimS (p ++ l ++ p) cs = Lib.trimS l cs := by
  unfold Lib.trimS Lib.trimLeftS Lib.trimRightS
  rw [List.reverse_append, List.reverse_append, dropWhile_pre _ _ _ (fun x hx => h x (by simpa using hx)), dropWhile_post _ _ _ (fun x hx => h x (by simpa using hx))]
  split
  · rename_i e
    rw [e]
  · rw [List.reverse_append, List.reverse_reverse, dropWhile_pre _ _ _ h]
theorem trim_all (cs p : List UInt8) (h : ∀ x ∈ p, cs.contains x = true) : Lib.trimS p cs = [] := by
  unfold Lib.trimS Lib.trimRightS
  have := dropWhile_pre (cs.contains ·) p.reverse [] (fun x hx => h x (by simpa using hx))
  rw [List.append_nil] at this
  rw [this]
  rfl
def padS : ByteArray := ⟨#[32, 9, 10, 13, 32, 9, 10, 13]⟩
theorem pad_blank (m : Nat) : ∀ x ∈ (padS.extract 0 m).data.toList, ([32, 9, 10, 13] : List UInt8).contains x = true := by
  intro x hx
  rw [Lib.extract_data] at hx
  have := List.mem_of_mem_drop (List.mem_of_mem_take hx)
  have h8 : ∀ y ∈ padS.data.toList, ([32, 9, 10, 13] : List UInt8).contains y = true := by decide
  exact h8 x this
theorem trim_pad (m : Nat) : trimS (padS.extract 0 m) = ByteArray.empty := by
  unfold trimS
  rw [trim_all _ _ (pad_blank m)]
  rfl
theorem trim_padded (m : Nat) (s : ByteArray) : trimS (padS.extract 0 m ++ s ++ padS.extract 0 m) = trimS s := by
  unfold trimS
  rw [ByteArray.data_append, ByteArray.data_append]
  simp only [Array.toList_append]
  rw [trim_around _ _ _ (pad_blank m)]
theorem and7 (n : Nat) (h : n < 256) : bits .and .u8 (n : Int) 7 = ((n % 8 : Nat) : Int) := by
  have : ∀ n : Fin 256, bits .and .u8 (n.1 : Int) 7 = ((n.1 % 8 : Nat) : Int) := by decide +kernel
  exact this ⟨n, h⟩
end Go.Proofs.YtndppcklpcfikaaGreatDoor
