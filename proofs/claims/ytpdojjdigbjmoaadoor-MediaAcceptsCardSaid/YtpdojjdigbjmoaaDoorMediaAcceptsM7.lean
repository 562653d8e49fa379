/- All parameters of a text: plain facts. -/
import Derived.Test.YtpdojjdigbjmoaaDoorMediaAcceptsM6
import Derived.Test.YtpdojjdigbjmoaaDoorMediaAcceptsM3
import Derived.Test.YtpdojjdigbjmoaaDoorMediaAcceptsM2
import Derived.Test.YtpdojjdigbjmoaaDoorMediaAcceptsM4

namespace Go.Proofs.YtpdojjdigbjmoaaDoor
open Go.RowKit

theorem quotedG_len : ∀ (n : Nat) (l out v r : List UInt8), l.length ≤ n → quotedG l out = some (v, r) → r.length < l.length + 1 := by
  intro n
  induction n with
  | zero =>
    intro l out v r hl h
    have : l = [] := List.eq_nil_of_length_eq_zero (by omega)
    subst this
    simp [quotedG] at h
  | succ n ih =>
    intro l out v r hl h
    cases l with
    | nil => simp [quotedG] at h
    | cons c l =>
      by_cases hc : c = 34
      · rw [quotedG_end hc] at h; cases h; simp; omega
      · by_cases hc2 : c = 92
        · subst hc2
          cases l with
          | nil => rw [quotedG_esc0] at h; cases h
          | cons d l =>
            rw [quotedG_esc] at h
            have := ih _ _ _ _ (by simp at hl; omega) h
            simp; omega
        · rw [quotedG_step hc hc2] at h
          have := ih _ _ _ _ (by simp at hl; omega) h
          simp; omega
theorem paramG_len {l r : List UInt8} {x : It} (h : paramG l = some (x, r)) : r.length < l.length := by
  have hb : (backG l).2 = false := by
    cases hh : (backG l).2 with
    | false => rfl
    | true => rw [param_bad hh] at h; cases h
  rw [param_good hb] at h
  cases hv : valueG (backG l).1 with
  | none => rw [hv] at h; cases h
  | some y =>
    rw [hv] at h
    simp only [Option.map_some, Option.some.injEq, Prod.mk.injEq] at h
    rw [← h.2]
    have h1 := blankL_len y.2
    have h2 : y.2.length ≤ (backG l).1.length := by
      generalize (backG l).1 = l4 at *
      by_cases hq : ∃ l', l4 = 34 :: l'
      · obtain ⟨l', rfl⟩ := hq
        rw [valueG_mark] at hv
        have := quotedG_len _ _ _ y.1 y.2 (Nat.le_refl _) hv
        simp; omega
      · rw [valueG_tok (fun l' e => hq ⟨l', e⟩)] at hv
        split at hv
        · cases hv; exact tokR_len l4
        · cases hv
    have h3 : (backG l).1.length < l.length := by
      have hb' := hb
      unfold backG at hb' ⊢
      have h4 := markG_len 61 (tokR (blankL (markG 59 l false).1)) ((markG 59 l false).2 || !tokOk (nameG l))
      have h5 := tokR_len (blankL (markG 59 l false).1)
      have h6 := blankL_len (markG 59 l false).1
      have h7 : (markG 59 l false).1.length < l.length := by
        cases h8 : (markG 59 l false).2 with
        | true => rw [h8] at hb'; simp only [Bool.true_or] at hb'; rw [markG_bad] at hb'; cases hb'
        | false =>
          unfold markG at h8 ⊢
          cases l with
          | nil => simp at h8
          | cons z l =>
            by_cases hz : z = 59
            · simp [hz]
            · simp [hz] at h8
      omega
    omega
theorem paramsG_more : ∀ (n m : Nat) (l : List UInt8) (acc : List It), l.length ≤ n → l.length ≤ m → paramsG n l acc = paramsG m l acc := by
  intro n
  induction n with
  | zero =>
    intro m l acc hn hm
    have : l = [] := List.eq_nil_of_length_eq_zero (by omega)
    subst this
    cases m <;> simp [paramsG]
  | succ n ih =>
    intro m l acc hn hm
    cases m with
    | zero =>
      have : l = [] := List.eq_nil_of_length_eq_zero (by omega)
      subst this
      simp [paramsG]
    | succ m =>
      rw [paramsG, paramsG]
      split
      · rfl
      · cases h : paramG l with
        | none => rfl
        | some y =>
          have := paramG_len h
          exact ih m y.2 _ (by omega) (by omega)
/-- All parameters, behind those that there are. -/
def parR (l : List UInt8) (acc : List It) : Option (List It) := paramsG l.length l acc
theorem parR_nil {acc : List It} : parR [] acc = some acc := by simp [parR, paramsG]
theorem parR_none {l : List UInt8} {acc : List It} (hne : l ≠ []) (h : paramG l = none) : parR l acc = none := by
  unfold parR
  cases l with
  | nil => exact absurd rfl hne
  | cons x l => rw [List.length_cons, paramsG, if_neg hne, h]
theorem parR_some {l r : List UInt8} {acc : List It} {x : It} (hne : l ≠ []) (h : paramG l = some (x, r)) : parR l acc = parR r (acc ++ [x]) := by
  have hl := paramG_len h
  unfold parR
  cases l with
  | nil => exact absurd rfl hne
  | cons z l =>
    rw [List.length_cons, paramsG, if_neg hne, h]
    exact paramsG_more _ _ _ _ (by simp at hl; omega) (Nat.le_refl _)
/-- Is a name there twice? (The first place at which one stands that stood before.) -/
def dupN (l : List It) : Bool := (List.range l.length).any fun i => (l.take i).any fun x => decide (x.name = (l.getD i ⟨ByteArray.empty, ByteArray.empty, false⟩).name)
/-- A text's head: type, subtype, what is behind them; is it wrong? -/
def headT (s : ByteArray) : List UInt8 := tokW (blankL s.data.toList)
def headM (s : ByteArray) : List UInt8 × Bool := markG 47 (tokR (blankL s.data.toList)) (!tokOk (headT s))
def headS (s : ByteArray) : List UInt8 := tokW (headM s).1
def headR (s : ByteArray) : List UInt8 := blankL (tokR (headM s).1)
def headB (s : ByteArray) : Bool := (headM s).2 || !tokOk (headS s)
structure Md where
  type : ByteArray
  sub : ByteArray
  params : List It
/-- A text's kind of content, or the error's kind and place. -/
def parseM (s : ByteArray) : Except (Nat × Nat) Md :=
  if 1000 < s.size then .error (14, 1000) else if headB s = true then .error (11, 0) else
  match parR (headR s) [] with
  | none => .error (11, 0)
  | some l => if 8 < l.length then .error (15, 0) else if dupN l = true then .error (31, 0) else .ok ⟨lowerS (ofL (headT s)), lowerS (ofL (headS s)), l⟩
theorem parseM_bad {s : ByteArray} (hs : s.size ≤ 1000) (h : headB s = true) : parseM s = .error (11, 0) := by unfold parseM; rw [if_neg (by omega), if_pos h]
theorem parseM_none {s : ByteArray} (hs : s.size ≤ 1000) (h : headB s = false) (h2 : parR (headR s) [] = none) : parseM s = .error (11, 0) := by unfold parseM; rw [if_neg (by omega), if_neg (by rw [h]; decide), h2]
theorem parseM_many {s : ByteArray} {l : List It} (hs : s.size ≤ 1000) (h : headB s = false) (h2 : parR (headR s) [] = some l) (h3 : 8 < l.length) : parseM s = .error (15, 0) := by unfold parseM; rw [if_neg (by omega), if_neg (by rw [h]; decide), h2]; exact if_pos h3
theorem parseM_dup {s : ByteArray} {l : List It} (hs : s.size ≤ 1000) (h : headB s = false) (h2 : parR (headR s) [] = some l) (h3 : ¬ 8 < l.length) (h4 : dupN l = true) : parseM s = .error (31, 0) := by unfold parseM; rw [if_neg (by omega), if_neg (by rw [h]; decide), h2]; simp only [if_neg h3, if_pos h4]
theorem parseM_ok {s : ByteArray} {l : List It} (hs : s.size ≤ 1000) (h : headB s = false) (h2 : parR (headR s) [] = some l) (h3 : ¬ 8 < l.length) (h4 : dupN l = false) : parseM s = .ok ⟨lowerS (ofL (headT s)), lowerS (ofL (headS s)), l⟩ := by unfold parseM; rw [if_neg (by omega), if_neg (by rw [h]; decide), h2]; simp only [if_neg h3, h4]; rfl
theorem dupN_yes {l : List It} {i : Nat} {x : It} (h : l[i]? = some x) (h2 : ((l.take i).any fun y => decide (y.name = x.name)) = true) : dupN l = true := by
  unfold dupN
  rw [List.any_eq_true]
  refine ⟨i, List.mem_range.2 (List.getElem?_eq_some_iff.1 h).1, ?_⟩
  rw [List.getD, h]
  exact h2
theorem dupN_no {l : List It} (h : ∀ (i : Nat) (x : It), l[i]? = some x → ((l.take i).any fun y => decide (y.name = x.name)) = false) : dupN l = false := by
  unfold dupN
  rw [List.any_eq_false]
  intro i hi
  have hi := List.mem_range.1 hi
  have := h i _ (List.getElem?_eq_getElem hi)
  rw [List.getD, List.getElem?_eq_getElem hi]
  simpa using this
end Go.Proofs.YtpdojjdigbjmoaaDoor

/- The reference of chapter 17: within, Token, token, blank, quoted. -/
namespace Go.Proofs.YtpdojjdigbjmoaaDoor
open Go.RowKit

def signS : ByteArray := ⟨#[33, 35, 36, 37, 38, 39, 42, 43, 45, 46, 94, 95, 124, 126]⟩
theorem inTok_is (c : UInt8) : inTok c = ((decide (97 ≤ smallN c.toNat) && decide (smallN c.toNat ≤ 122)) || ((decide (48 ≤ c.toNat) && decide (c.toNat ≤ 57)) || (decide (c.toNat = 96) || hasB signS c))) := by
  have : ∀ n : Fin 256, inTok (UInt8.ofNat n.1) = ((decide (97 ≤ smallN (UInt8.ofNat n.1).toNat) && decide (smallN (UInt8.ofNat n.1).toNat ≤ 122)) || ((decide (48 ≤ (UInt8.ofNat n.1).toNat) && decide ((UInt8.ofNat n.1).toNat ≤ 57)) || (decide ((UInt8.ofNat n.1).toNat = 96) || hasB signS (UInt8.ofNat n.1)))) := by decide +kernel
  have h := this ⟨c.toNat, c.toNat_lt⟩
  simpa using h
set_option maxHeartbeats 1600000 in
set_option maxRecDepth 100000 in
theorem ref_within (c : UInt8) (w : World) : Calls Tryd.prog 152 #[.int .u8 (c.toNat : Int)] w fun e w' => e = .returned (.bool (inTok c)) ∧ w = w' := by
  have cS := Lib.hid (fun W => ref_Small c.toNat c.toNat_lt W)
  have cH := Lib.hid (fun W => ref_Has signS c W (by decide))
  have hin := inTok_is c
  have hsm : smallN c.toNat = c.toNat ∨ (65 ≤ c.toNat ∧ c.toNat ≤ 90 ∧ smallN c.toNat = c.toNat + 32) := by unfold smallN; split <;> omega
  generalize smallN c.toNat = m at *
  generalize hasB signS c = hb at *
  have HIN := Lib.hid hin
  clear hin
  by_cases h1 : 97 ≤ m
  · by_cases h2 : m ≤ 122
    · have d1 : (97 : Int) ≤ (m : Int) := by omega
      have d2 : decide ((m : Int) ≤ 122) = true := decide_eq_true (by omega)
      have hf : inTok c = true := by rw [HIN.out, decide_eq_true h1, decide_eq_true h2]; rfl
      have HF := Lib.hid hf
      clear hf h1 h2 hsm
      go_enter Tryd.func152, Tryd.ntmps152
      go_wp2_with fail
      refine (cS.out _).mono ?_
      rintro e w2 ⟨rfl, rfl⟩
      go_wp2_with fail
      go_ret
      exact ⟨ret_bool HF.out.symm, rfl⟩
    · have d1 : (97 : Int) ≤ (m : Int) := by omega
      have d2 : decide ((m : Int) ≤ 122) = false := decide_eq_false (by omega)
      have d3 : (48 : Int) ≤ (c.toNat : Int) := by omega
      have d4 : decide ((c.toNat : Int) ≤ 57) = false := decide_eq_false (by omega)
      have d5 : ((c.toNat : Int) == 96) = false := by rw [beq_eq_false_iff_ne]; omega
      have hf : inTok c = hb := by rw [HIN.out, decide_eq_false h2, decide_eq_false (by omega : ¬ c.toNat ≤ 57), decide_eq_false (by omega : ¬ c.toNat = 96)]; simp
      have HF := Lib.hid hf
      clear hf h1 h2 hsm
      go_enter Tryd.func152, Tryd.ntmps152
      go_wp2_with fail
      refine (cS.out _).mono ?_
      rintro e w2 ⟨rfl, rfl⟩
      go_wp2_with fail
      refine (cH.out _).mono ?_
      rintro e w2 ⟨rfl, rfl⟩
      go_wp2_with fail
      go_ret
      exact ⟨ret_bool HF.out.symm, rfl⟩
  · have d1 : decide ((97 : Int) ≤ (m : Int)) = false := decide_eq_false (by omega)
    have d1' : ¬ (97 : Int) ≤ (m : Int) := by omega
    by_cases h3 : 48 ≤ c.toNat
    · have d3 : (48 : Int) ≤ (c.toNat : Int) := by omega
      by_cases h4 : c.toNat ≤ 57
      · have d4 : decide ((c.toNat : Int) ≤ 57) = true := decide_eq_true (by omega)
        have hf : inTok c = true := by rw [HIN.out, decide_eq_true h3, decide_eq_true h4]; simp
        have HF := Lib.hid hf
        clear hf h1 h3 h4 hsm
        go_enter Tryd.func152, Tryd.ntmps152
        go_wp2_with fail
        refine (cS.out _).mono ?_
        rintro e w2 ⟨rfl, rfl⟩
        go_wp2_with fail
        go_ret
        exact ⟨ret_bool HF.out.symm, rfl⟩
      · have d4 : decide ((c.toNat : Int) ≤ 57) = false := decide_eq_false (by omega)
        by_cases h5 : c.toNat = 96
        · have d5 : ((c.toNat : Int) == 96) = true := by rw [beq_iff_eq]; omega
          have hf : inTok c = true := by rw [HIN.out, decide_eq_true h5]; simp
          have HF := Lib.hid hf
          clear hf h1 h3 h4 h5 hsm
          go_enter Tryd.func152, Tryd.ntmps152
          go_wp2_with fail
          refine (cS.out _).mono ?_
          rintro e w2 ⟨rfl, rfl⟩
          go_wp2_with fail
          go_ret
          exact ⟨ret_bool HF.out.symm, rfl⟩
        · have d5 : ((c.toNat : Int) == 96) = false := by rw [beq_eq_false_iff_ne]; omega
          have hf : inTok c = hb := by rw [HIN.out, decide_eq_false h1, decide_eq_false h4, decide_eq_false h5]; simp
          have HF := Lib.hid hf
          clear hf h1 h3 h4 h5 hsm
          go_enter Tryd.func152, Tryd.ntmps152
          go_wp2_with fail
          refine (cS.out _).mono ?_
          rintro e w2 ⟨rfl, rfl⟩
          go_wp2_with fail
          refine (cH.out _).mono ?_
          rintro e w2 ⟨rfl, rfl⟩
          go_wp2_with fail
          go_ret
          exact ⟨ret_bool HF.out.symm, rfl⟩
    · have d3 : decide ((48 : Int) ≤ (c.toNat : Int)) = false := decide_eq_false (by omega)
      have d5 : ((c.toNat : Int) == 96) = false := by rw [beq_eq_false_iff_ne]; omega
      have hf : inTok c = hb := by rw [HIN.out, decide_eq_false h1, decide_eq_false h3, decide_eq_false (by omega : ¬ c.toNat = 96)]; simp
      have HF := Lib.hid hf
      clear hf h1 h3 hsm
      go_enter Tryd.func152, Tryd.ntmps152
      go_wp2_with fail
      refine (cS.out _).mono ?_
      rintro e w2 ⟨rfl, rfl⟩
      go_wp2_with fail
      refine (cH.out _).mono ?_
      rintro e w2 ⟨rfl, rfl⟩
      go_wp2_with fail
      go_ret
      exact ⟨ret_bool HF.out.symm, rfl⟩
set_option maxHeartbeats 1600000 in
set_option maxRecDepth 100000 in
theorem ref17_Token (s : ByteArray) (w : World) (hs : s.size ≤ 16777216) : Calls Tryd.prog 153 #[.string s] w fun e w' => e = .returned (.bool (tokOk s.data.toList)) ∧ w = w' := by
  have HF := Lib.hid (@tokOk_all s)
  have HNO := Lib.hid (fun i => @tokOk_no s i)
  have cI := Lib.hid ref_within
  go_enter Tryd.func153, Tryd.ntmps153
  go_wp2_with fail
  go_loopw [3] (fun x wr => ∃ i : Nat, i ≤ s.size ∧ x = .int .i64 i ∧ w = wr ∧ ∀ j, j < i → inTok (byteAt s j) = true) (fun x _ => s.size - (intOf x).toNat)
  case atStart => exact ⟨0, Nat.zero_le _, rfl, rfl, fun j hj => by omega⟩
  case round =>
    obtain ⟨i, hil, rfl, rfl, hall⟩ := hrel
    have HA := Lib.hid hall
    clear hall
    by_cases hlt : i < s.size
    · have hbi := byteAt_ix hlt
      have hst : inTok s[i] = true → ∀ j, j < i + 1 → inTok (byteAt s j) = true := fun h j hj => by
        by_cases hji : j = i
        · subst hji; rw [hbi]; exact h
        · exact HA.out j (by omega)
      have hn2 := fun h => HNO.out i hlt (hbi ▸ h)
      have HST := Lib.hid hst
      have HN2 := Lib.hid hn2
      have cW := Lib.hid (cI.out s[i])
      clear hst hn2 hbi
      go_wp2_with fail
      refine (cW.out _).mono ?_
      rintro e w2 ⟨rfl, rfl⟩
      cases hin : inTok (s[i]'hlt)
      · have HX := Lib.hid (HN2.out hin)
        clear hin
        go_wp2_with fail
        go_ret
        exact ⟨ret_bool HX.out.symm, rfl⟩
      · have HX := Lib.hid (HST.out hin)
        clear hin
        go_wp2_with fail
        go_roundw
        case rel => exact ⟨i + 1, by omega, by go_num, by trivial, HX.out⟩
        case measure => simp [intOf]; omega
    · obtain rfl : i = s.size := by omega
      have hr := HF.out HA.out
      have HR := Lib.hid hr
      clear hr
      by_cases h1 : 1 ≤ s.size
      · have d1 : (1 : Int) ≤ (s.size : Int) := by omega
        have hd : decide ((s.size : Int) ≤ 100) = decide (s.size ≤ 100) := decide_eq_decide.2 (by omega)
        have HD := Lib.hid hd
        have HH := Lib.hid h1
        clear hd h1
        go_wp2_with fail
        go_ret
        exact ⟨ret_bool (by rw [HR.out, HD.out, decide_eq_true HH.out]; rfl), rfl⟩
      · have d1 : decide ((1 : Int) ≤ (s.size : Int)) = false := decide_eq_false (by omega)
        have HH := Lib.hid h1
        clear h1
        go_wp2_with fail
        go_ret
        exact ⟨ret_bool (by rw [HR.out, decide_eq_false HH.out]; rfl), rfl⟩
end Go.Proofs.YtpdojjdigbjmoaaDoor

/- The reference of chapter 17: token, blank, quoted, from place to place. -/
namespace Go.Proofs.YtpdojjdigbjmoaaDoor
open Go.RowKit

def rest (s : ByteArray) (a : Nat) : List UInt8 := s.data.toList.drop a
theorem rest_len (s : ByteArray) (a : Nat) : (rest s a).length = s.size - a := by unfold rest; rw [List.length_drop]; rfl
theorem rest_get {s : ByteArray} {a i : Nat} : (rest s a).getD i 0 = byteAt s (a + i) := by
  unfold rest byteAt
  rw [List.getD, List.getD, List.getElem?_drop]
theorem rest_drop (s : ByteArray) (a i : Nat) : (rest s a).drop i = rest s (a + i) := by unfold rest; rw [List.drop_drop]
theorem rest_cons {s : ByteArray} {i : Nat} (h : i < s.size) : rest s i = byteAt s i :: rest s (i + 1) := by
  unfold rest byteAt
  have hl : s.data.toList.length = s.size := rfl
  rw [List.drop_eq_getElem_cons (by omega), List.getD, List.getElem?_eq_getElem (by omega)]
  rfl
theorem rest_nil {s : ByteArray} {i : Nat} (h : s.size ≤ i) : rest s i = [] := by
  unfold rest
  exact List.drop_eq_nil_of_le h
theorem rest_extract (s : ByteArray) (a n : Nat) : s.extract a (a + n) = ofL ((rest s a).take n) := by
  conv => lhs; rw [← ofL_list s]
  rw [ofL_extract]
  unfold rest
  rw [show a + n - a = n by omega]
def tokAt (s : ByteArray) (a : Nat) : Int := if tokOk (tokW (rest s a)) = true then ((a + (tokW (rest s a)).length : Nat) : Int) else -1
theorem ext_whole (s : ByteArray) (a b : Nat) (ha : a = 0) (hb : b = s.size) : s.extract a b = s := by
  subst ha hb
  apply ByteArray.ext
  apply Array.ext'
  rw [Lib.extract_data]
  have hl : s.data.toList.length = s.size := rfl
  rw [List.drop_zero, Nat.sub_zero, ← hl, List.take_length]
set_option maxHeartbeats 1600000 in
set_option maxRecDepth 100000 in
theorem ref17_token (s : ByteArray) (a : Nat) (w : World) (hs : s.size ≤ 1000000) (ha : a ≤ s.size) : Calls Tryd.prog 113 #[.string s, .int .i64 (a : Int)] w fun e w' => e = .returned (.int .i64 (tokAt s a)) ∧ w = w' := by
  obtain ⟨s1, s2, s3, s4, _⟩ := span_at inTok (rest s a)
  rw [rest_len] at s2 s3
  have hW : tokW (rest s a) = (rest s a).take ((rest s a).takeWhile inTok).length := s4
  have cT := fun W => ref17_Token (ofL (tokW (rest s a))) W (by rw [ofL_size, hW, List.length_take, rest_len]; omega)
  have hfin : tokAt s a = if tokOk (tokW (rest s a)) = true then ((a + ((rest s a).takeWhile inTok).length : Nat) : Int) else -1 := rfl
  rw [ofL_list2] at cT
  have hext : s.extract a (a + ((rest s a).takeWhile inTok).length) = ofL (tokW (rest s a)) := by rw [rest_extract, hW]
  rw [← hext] at cT
  generalize tokOk (tokW (rest s a)) = ok at *
  generalize ((rest s a).takeWhile inTok).length = k at *
  have CT := Lib.hid cT
  have S1 := Lib.hid s1
  have S3 := Lib.hid s3
  have HF := Lib.hid hfin
  clear cT s1 s3 s4 hW hfin hext
  go_enter Tryd.func113, Tryd.ntmps113
  go_wp2_with fail
  go_loopw [5] (fun x wr => ∃ i : Nat, i ≤ k ∧ x = .int .i64 ((a + i : Nat) : Int) ∧ w = wr) (fun x _ => a + k - (intOf x).toNat)
  case atStart => exact ⟨0, Nat.zero_le _, rfl, rfl⟩
  case round =>
    obtain ⟨i, hik, rfl, rfl⟩ := hrel
    have hai : ((a + i : Nat) : Int) = (a : Int) + (i : Int) := by omega
    by_cases hlt : i < k
    · have hz : a + i < s.size := by omega
      have ei : s[a + i] = (rest s a).getD i 0 := by rw [← byteAt_ix hz, rest_get]
      have cI := Lib.hid (ref_within s[a + i])
      rw [ei, S1.out i hlt, ← ei] at cI
      have hzI : ((a + i : Nat) : Int) < (s.size : Int) := by omega
      clear ei hai
      have hb : a + i = a + i := rfl
      generalize e0 : a + i = b at hz cI hzI hb ⊢
      clear hb
      go_wp2_with fail
      refine (cI.out _).mono ?_
      rintro e w2 ⟨rfl, rfl⟩
      go_wp2_with fail
      go_roundw
      case rel => exact ⟨i + 1, by omega, by rw [← e0]; go_num, by first | rfl | trivial⟩
      case measure => simp [intOf]; omega
    · obtain rfl : i = k := by omega
      by_cases hz : a + i < s.size
      · have ei : s[a + i] = (rest s a).getD i 0 := by rw [← byteAt_ix hz, rest_get]
        have cI := Lib.hid (ref_within s[a + i])
        rw [ei, S3.out (by omega), ← ei] at cI
        have hzI : ((a + i : Nat) : Int) < (s.size : Int) := by omega
        have hbI : (a : Int) ≤ ((a + i : Nat) : Int) := by omega
        clear ei hai hlt hik S1 S3 s2 ha
        generalize a + i = b at *
        go_wp2_with fail
        refine (cI.out _).mono ?_
        rintro e w2 ⟨rfl, rfl⟩
        go_wp2_with fail
        refine (CT.out _).mono ?_
        rintro e w2 ⟨rfl, rfl⟩
        cases ok
        · go_wp2_with fail
          go_ret
          exact ⟨HF.out.symm ▸ rfl, rfl⟩
        · go_wp2_with fail
          go_ret
          exact ⟨HF.out.symm ▸ rfl, rfl⟩
      · have hb : a + i = s.size := by omega
        have hbI : (a : Int) ≤ (s.size : Int) := by omega
        rw [hb] at CT HF ⊢
        clear hai hlt hik S1 S3 s2 ha hz hb
        go_wp2_with fail
        refine (CT.out _).mono ?_
        rintro e w2 ⟨rfl, rfl⟩
        cases ok
        · go_wp2_with fail
          go_ret
          exact ⟨HF.out.symm ▸ rfl, rfl⟩
        · go_wp2_with fail
          go_ret
          exact ⟨HF.out.symm ▸ rfl, rfl⟩
end Go.Proofs.YtpdojjdigbjmoaaDoor

/- The reference of chapter 17: blank, quoted, from place to place. -/
namespace Go.Proofs.YtpdojjdigbjmoaaDoor
open Go.RowKit

def blankN (s : ByteArray) (a : Nat) : Nat := a + ((rest s a).takeWhile isBlank).length
theorem blankN_rest (s : ByteArray) (a : Nat) : rest s (blankN s a) = blankL (rest s a) := by
  obtain ⟨_, _, _, _, s5⟩ := span_at isBlank (rest s a)
  unfold blankN blankL
  rw [s5, rest_drop]
theorem blankN_le (s : ByteArray) (a : Nat) (ha : a ≤ s.size) : a ≤ blankN s a ∧ blankN s a ≤ s.size := by
  obtain ⟨_, s2, _, _, _⟩ := span_at isBlank (rest s a)
  rw [rest_len] at s2
  unfold blankN
  omega
theorem u8_is {c : UInt8} {n : Nat} (hn : n < 256) : ((c.toNat : Int) == (n : Int)) = decide (c = UInt8.ofNat n) := by
  by_cases h : c = UInt8.ofNat n
  · have := u8_eqN hn h
    rw [decide_eq_true h]
    simpa [bne] using this
  · have := u8_neN hn h
    rw [decide_eq_false h]
    simpa [bne] using this
set_option maxHeartbeats 1600000 in
set_option maxRecDepth 100000 in
theorem ref17_blank (s : ByteArray) (a : Nat) (w : World) (hs : s.size ≤ 1000000) (ha : a ≤ s.size) : Calls Tryd.prog 112 #[.string s, .int .i64 (a : Int)] w fun e w' => e = .returned (.int .i64 (blankN s a : Int)) ∧ w = w' := by
  obtain ⟨s1, s2, s3, s4, _⟩ := span_at isBlank (rest s a)
  rw [rest_len] at s2 s3
  have hfin : blankN s a = a + ((rest s a).takeWhile isBlank).length := rfl
  generalize ((rest s a).takeWhile isBlank).length = k at *
  have S1 := Lib.hid s1
  have S3 := Lib.hid s3
  have HF := Lib.hid hfin
  clear s1 s3 s4 hfin
  go_enter Tryd.func112, Tryd.ntmps112
  go_wp2_with fail
  go_loopw [1] (fun x wr => ∃ i : Nat, i ≤ k ∧ x = .int .i64 ((a + i : Nat) : Int) ∧ w = wr) (fun x _ => a + k - (intOf x).toNat)
  case atStart => exact ⟨0, Nat.zero_le _, rfl, rfl⟩
  case round =>
    obtain ⟨i, hik, rfl, rfl⟩ := hrel
    by_cases hz : a + i < s.size
    · have ei : s[a + i] = (rest s a).getD i 0 := by rw [← byteAt_ix hz, rest_get]
      have d1 : ((s[a + i].toNat : Int) == 32) = decide (s[a + i] = 32) := u8_is (n := 32) (by decide)
      have d2 : ((s[a + i].toNat : Int) == 9) = decide (s[a + i] = 9) := u8_is (n := 9) (by decide)
      have hzI : ((a + i : Nat) : Int) < (s.size : Int) := by omega
      by_cases hlt : i < k
      · have hB := S1.out i hlt
        rw [← ei] at hB
        unfold isBlank at hB
        clear ei
        generalize e0 : a + i = b at hz d1 d2 hzI hB ⊢
        by_cases h32 : (s[b]'hz) = 32
        · rw [decide_eq_true h32] at d1
          clear d2 hB h32
          go_wp2_with fail
          go_roundw
          case rel => exact ⟨i + 1, by omega, by rw [← e0]; go_num, by first | rfl | trivial⟩
          case measure => simp [intOf]; omega
        · have h9 : (s[b]'hz) = 9 := by simpa [h32] using hB
          rw [decide_eq_false h32] at d1
          rw [decide_eq_true h9] at d2
          clear hB h32 h9
          go_wp2_with fail
          go_roundw
          case rel => exact ⟨i + 1, by omega, by rw [← e0]; go_num, by first | rfl | trivial⟩
          case measure => simp [intOf]; omega
      · obtain rfl : i = k := by omega
        have hB := S3.out (by omega)
        rw [← ei] at hB
        unfold isBlank at hB
        clear ei S1 S3 s2 hlt hik ha
        generalize a + i = b at *
        have h32 : (s[b]'hz) ≠ 32 := fun h => by simp [h] at hB
        have h9 : (s[b]'hz) ≠ 9 := fun h => by simp [h] at hB
        rw [decide_eq_false h32] at d1
        rw [decide_eq_false h9] at d2
        clear hB h32 h9
        go_wp2_with fail
        go_ret
        exact ⟨by rw [HF.out]; rfl, rfl⟩
    · obtain rfl : i = k := by omega
      have hb : a + i = s.size := by omega
      rw [hb] at HF ⊢
      clear S1 S3 s2 hik ha hz hb
      go_wp2_with fail
      go_ret
      exact ⟨by rw [HF.out]; rfl, rfl⟩
theorem ext_one {s : ByteArray} {i : Nat} (h : i < s.size) : s.extract i (i + 1) = ofL [byteAt s i] := by
  rw [rest_extract, rest_cons h]; rfl
theorem cat_one {s : ByteArray} {i : Nat} (out : List UInt8) (h : i < s.size) : ofL out ++ s.extract i (i + 1) = ofL (out ++ [byteAt s i]) := by
  rw [ext_one h, ofL_app]
def quotedN (s : ByteArray) (a : Nat) : ByteArray × Int := match quotedG (rest s (a + 1)) [] with
  | some (v, r) => (ofL v, ((s.size - r.length : Nat) : Int))
  | none => (⟨#[]⟩, -1)
theorem quotedN_some {s : ByteArray} {a : Nat} {v r : List UInt8} (h : quotedG (rest s (a + 1)) [] = some (v, r)) : quotedN s a = (ofL v, ((s.size - r.length : Nat) : Int)) := by unfold quotedN; rw [h]
theorem quotedN_none {s : ByteArray} {a : Nat} (h : quotedG (rest s (a + 1)) [] = none) : quotedN s a = (⟨#[]⟩, -1) := by unfold quotedN; rw [h]
set_option maxHeartbeats 1600000 in
set_option maxRecDepth 100000 in
theorem ref17_quoted (s : ByteArray) (a : Nat) (w : World) (hs : s.size ≤ 1000000) (ha : a < s.size) : Calls Tryd.prog 154 #[.string s, .int .i64 (a : Int)] w fun e w' => e = .returned (.tuple #[.string (quotedN s a).1, .int .i64 (quotedN s a).2]) ∧ w = w' := by
  go_enter Tryd.func154, Tryd.ntmps154
  go_wp2_with fail
  go_loopw [6, 7] (fun o x wr => ∃ (i : Nat) (out : List UInt8), i ≤ s.size ∧ o = .string (ofL out) ∧ x = .int .i64 (i : Int) ∧ out.length ≤ i ∧ quotedG (rest s (a + 1)) [] = quotedG (rest s i) out ∧ w = wr) (fun _ x _ => s.size - (intOf x).toNat)
  case atStart => exact ⟨a + 1, [], by omega, rfl, by go_num, by simp, rfl, rfl⟩
  case round =>
    obtain ⟨i, out, his, rfl, rfl, hol, hq, rfl⟩ := hrel
    by_cases hz : i < s.size
    · rw [rest_cons hz] at hq
      have ei := byteAt_ix hz
      have d1 : ((s[i].toNat : Int) == 34) = decide (s[i] = 34) := u8_is (n := 34) (by decide)
      have d2 : ((s[i].toNat : Int) == 92) = decide (s[i] = 92) := u8_is (n := 92) (by decide)
      by_cases h34 : s[i] = 34
      · rw [quotedG_end (ei.trans h34)] at hq
        have hr := quotedN_some hq
        rw [rest_len, show s.size - (s.size - (i + 1)) = i + 1 by omega] at hr
        rw [decide_eq_true h34] at d1
        have HR := Lib.hid hr
        clear hr hq ei d2 h34
        go_wp2_with fail
        go_ret2
        exact ⟨by rw [HR.out]; rfl, rfl⟩
      · rw [decide_eq_false h34] at d1
        by_cases h92 : s[i] = 92
        · rw [decide_eq_true h92] at d2
          rw [ei, h92] at hq
          by_cases hz2 : i + 1 < s.size
          · rw [rest_cons hz2, quotedG_esc] at hq
            have hcat := cat_one out hz2
            have hne : (((i + 1 : Nat) : Int) == (s.size : Int)) = false := by rw [beq_eq_false_iff_ne]; omega
            have hol2 : (ofL out).size ≤ 1000000 := by rw [ofL_size]; omega
            have HC := Lib.hid hcat
            have HQ := Lib.hid hq
            clear hq hcat ei h34 h92
            go_wp2_with fail
            go_roundw
            case rel => exact ⟨i + 2, out ++ [byteAt s (i + 1)], by omega, by rw [← HC.out], by go_num, by simp; omega, HQ.out, by first | rfl | trivial⟩
            case measure => simp [intOf]; omega
          · obtain hb : i + 1 = s.size := by omega
            rw [rest_nil (s := s) (i := i + 1) (by omega), quotedG_esc0] at hq
            have HR := Lib.hid (quotedN_none hq)
            have hne : (((i : Int) + 1) == (s.size : Int)) = true := by rw [beq_iff_eq]; omega
            clear hq ei h34 h92
            go_wp2_with fail
            go_ret2
            exact ⟨by rw [HR.out]; rfl, rfl⟩
        · rw [decide_eq_false h92] at d2
          rw [quotedG_step (by rw [ei]; exact h34) (by rw [ei]; exact h92)] at hq
          have hcat := cat_one out hz
          have hol2 : (ofL out).size ≤ 1000000 := by rw [ofL_size]; omega
          have HC := Lib.hid hcat
          have HQ := Lib.hid hq
          clear hq hcat ei h34 h92
          go_wp2_with fail
          go_roundw
          case rel => exact ⟨i + 1, out ++ [byteAt s i], by omega, by rw [← HC.out], by go_num, by simp; omega, HQ.out, by first | rfl | trivial⟩
          case measure => simp [intOf]; omega
    · rw [rest_nil (s := s) (i := i) (by omega)] at hq
      have HR := Lib.hid (quotedN_none (hq.trans rfl))
      clear hq
      go_wp2_with fail
      go_ret2
      exact ⟨by rw [HR.out]; rfl, rfl⟩
end Go.Proofs.YtpdojjdigbjmoaaDoor
