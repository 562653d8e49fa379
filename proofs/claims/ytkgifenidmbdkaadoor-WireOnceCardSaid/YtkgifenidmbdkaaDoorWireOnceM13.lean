/- media.Accept. -/
import Derived.Test.YtkgifenidmbdkaaDoorWireOnceM12
import Derived.LaidHandle
import Derived.LaidLaws
import Derived.Stop.Joined
import Derived.Lib.LaidU8T
import Derived.Shelf.Unicode.DecodeSlow

namespace Go.Proofs.YtkgifenidmbdkaaDoor
open Go.RowKit

/-- May content of such a kind be read as JSON? -/
def mayM (m : Md) : Bool := jsonB m.type m.sub && (match paramM m.params charS with | none => true | some v => sameB v utf8S)
/-- The error's number, and that of the one that it came from (0: none). -/
def acceptM (s : ByteArray) : Nat × Nat := match parseM s with
  | .error (k, _) => (42, k)
  | .ok m => if mayM m = true then (0, 0) else (42, 0)
/-- An error of kind 42 at 0, of what it came from; or none. -/
def IsAcc (w : World) (v : Value) (a : Nat × Nat) : Prop := (a = (0, 0) ∧ v = .nilIface) ∨ (a = (42, 0) ∧ IsFault w v 42 0) ∨ (a.1 = 42 ∧ a.2 ≠ 0 ∧ ∃ u i, FaultIs w v 42 0 u ∧ IsFault w u (a.2 : Int) i)
theorem IsAcc.below {w w' : World} {v : Value} {a : Nat × Nat} (h : IsAcc w v a) (hb : Below w.heap.size w w') : IsAcc w' v a := by
  rcases h with h | ⟨h, h2⟩ | ⟨h, h0, u, i, h2, h3⟩
  · exact .inl h
  · exact .inr (.inl ⟨h, FaultIs.below h2 hb⟩)
  · exact .inr (.inr ⟨h, h0, u, i, h2.below hb, FaultIs.below h3 hb⟩)
theorem IsAcc.err {w : World} {v : Value} {a : Nat × Nat} (h : IsAcc w v a) : IsErr w v a.1 0 := by
  rcases h with ⟨h, h2⟩ | ⟨h, h2⟩ | ⟨h, h0, u, i, h2, h3⟩
  · exact .inl ⟨by rw [h], h2⟩
  · rw [h]; exact .inr ⟨by decide, _, h2⟩
  · rw [h]; exact .inr ⟨by decide, _, h2⟩
theorem parseM_kind {s : ByteArray} {k i : Nat} (h : parseM s = .error (k, i)) : k ≠ 0 := by
  unfold parseM at h
  split at h
  · cases h; decide
  · split at h
    · cases h; decide
    · split at h
      · cases h; decide
      · split at h
        · cases h; decide
        · split at h
          · cases h; decide
          · cases h
theorem acc_err {s : ByteArray} {k i : Nat} (h : parseM s = .error (k, i)) : acceptM s = (42, k) := by unfold acceptM; rw [h]
theorem acc_yes {s : ByteArray} {m : Md} (h : parseM s = .ok m) (h2 : mayM m = true) : acceptM s = (0, 0) := by unfold acceptM; rw [h]; exact if_pos h2
theorem acc_no {s : ByteArray} {m : Md} (h : parseM s = .ok m) (h2 : mayM m = false) : acceptM s = (42, 0) := by unfold acceptM; rw [h]; exact if_neg (by rw [h2]; decide)
theorem quotedG_size : ∀ (n : Nat) (l out v r : List UInt8), l.length ≤ n → quotedG l out = some (v, r) → v.length ≤ out.length + l.length := by
  intro n
  induction n with
  | zero =>
    intro l out v r hl h
    have : l = [] := List.eq_nil_of_length_eq_zero (by omega)
    subst this
    simp [quotedG] at h
  | succ n ih =>
    intro l out v r hl h
    cases l with
    | nil => simp [quotedG] at h
    | cons c l =>
      by_cases hc : c = 34
      · rw [quotedG_end hc] at h; cases h; simp
      · by_cases hc2 : c = 92
        · subst hc2
          cases l with
          | nil => rw [quotedG_esc0] at h; cases h
          | cons d l =>
            rw [quotedG_esc] at h
            have := ih _ _ _ _ (by simp at hl; omega) h
            simp at this ⊢; omega
        · rw [quotedG_step hc hc2] at h
          have := ih _ _ _ _ (by simp at hl; omega) h
          simp at this ⊢; omega
theorem valueG_size {l v r : List UInt8} (h : valueG l = some (v, r)) : v.length ≤ l.length := by
  by_cases hq : ∃ l', l = 34 :: l'
  · obtain ⟨l', rfl⟩ := hq
    rw [valueG_mark] at h
    have := quotedG_size _ _ _ _ _ (Nat.le_refl _) h
    simp at this ⊢; omega
  · rw [valueG_tok (fun l' e => hq ⟨l', e⟩)] at h
    split at h
    · cases h; exact tokW_len l
    · cases h
theorem paramsG_sizes : ∀ (n : Nat) (l : List UInt8) (acc r : List It) (k : Nat), l.length ≤ k → (∀ x ∈ acc, x.value.size ≤ k) → paramsG n l acc = some r → ∀ x ∈ r, x.value.size ≤ k := by
  intro n
  induction n with
  | zero =>
    intro l acc r k hl ha h
    rw [paramsG] at h
    split at h
    · cases h; exact ha
    · cases h
  | succ n ih =>
    intro l acc r k hl ha h
    rw [paramsG] at h
    split at h
    · cases h; exact ha
    · cases hp : paramG l with
      | none => rw [hp] at h; cases h
      | some y =>
        rw [hp] at h
        have hy := paramG_len hp
        refine ih y.2 _ r k (by omega) (fun x hx => ?_) h
        rcases List.mem_append.1 hx with hx | hx
        · exact ha x hx
        · simp at hx
          subst hx
          have hb : (backG l).2 = false := by
            cases hh : (backG l).2 with
            | false => rfl
            | true => rw [param_bad hh] at hp; cases hp
          rw [param_good hb] at hp
          cases hv : valueG (backG l).1 with
          | none => rw [hv] at hp; cases hp
          | some z =>
            rw [hv] at hp
            simp only [Option.map_some, Option.some.injEq] at hp
            rw [← hp]
            have h1 := valueG_size (v := z.1) (r := z.2) hv
            have h4 := markG_len 61 (tokR (blankL (markG 59 l false).1)) ((markG 59 l false).2 || !tokOk (nameG l))
            have h5 := tokR_len (blankL (markG 59 l false).1)
            have h6 := blankL_len (markG 59 l false).1
            have h7 := markG_len 59 l false
            show (ofL z.1).size ≤ k
            rw [ofL_size]
            unfold backG at h1
            omega
theorem parseM_sizes {s : ByteArray} {m : Md} (h : parseM s = .ok m) : m.type.size ≤ 1000 ∧ m.sub.size ≤ 1000 ∧ m.params.length ≤ 8 ∧ ∀ x ∈ m.params, x.value.size ≤ 1000 := by
  unfold parseM at h
  split at h
  · cases h
  · next hs =>
    have hl : s.data.toList.length = s.size := rfl
    have h1 := tokW_len (blankL s.data.toList)
    have h2 := blankL_len s.data.toList
    have h3 := tokR_len (blankL s.data.toList)
    have h4 := markG_len 47 (tokR (blankL s.data.toList)) (!tokOk (headT s))
    have h5 := tokW_len (headM s).1
    have h6 := tokR_len (headM s).1
    have h7 := blankL_len (tokR (headM s).1)
    have hM : (headM s).1.length ≤ s.size := by unfold headM; omega
    split at h
    · cases h
    · split at h
      · cases h
      · next l hp =>
        split at h
        · cases h
        · next h8 =>
          split at h
          · cases h
          · cases h
            refine ⟨?_, ?_, (by show l.length ≤ 8; omega), ?_⟩
            · rw [lowerS_size, ofL_size]; unfold headT; omega
            · rw [lowerS_size, ofL_size]; unfold headS; omega
            · exact paramsG_sizes _ _ [] _ 1000 (by unfold headR; omega) (fun x hx => by cases hx) hp
def MAccPost (s : ByteArray) (w : World) (e : Ending) (w' : World) : Prop := Below w.heap.size w w' ∧ ∃ v, e = .returned v ∧ IsAcc w' v (acceptM s)
set_option maxHeartbeats 3200000 in
set_option maxRecDepth 100000 in
theorem media_Accept (s : ByteArray) (w : World) : Calls Tryd.prog 20 #[.string s] w (MAccPost s w) := by
  have cP := Lib.hid (fun W => media_Parse s W)
  go_enter Tryd.func20, Tryd.ntmps20
  go_wp2_with fail
  refine (cP.out _).mono ?_
  rintro e w2 ⟨hb2, h⟩
  rcases h with ⟨m, hm, pa, c, rfl, hlc, hcm, hsl⟩ | ⟨k, i, hk, v, rfl, hv⟩
  · obtain ⟨z1, z2, z3, z4⟩ := parseM_sizes hm
    have HY := Lib.hid (fun h => acc_yes hm h)
    have HN := Lib.hid (fun h => acc_no hm h)
    have hmay : mayM m = (jsonB m.type m.sub && (match paramM m.params charS with | none => true | some v => sameB v utf8S)) := rfl
    have HMAY := Lib.hid hmay
    obtain ⟨mt, ms, mp⟩ := m
    simp only at z1 z2 z3 z4 hmay hsl hlc
    have hm3 := MediaAt.new (w := w2) (n := mt) (v := ms) (pa := pa) (l := mp.length) (c := c)
    have hst := (Below.refl w2.heap.size w2).alloc (Nat.le_refl _) (.cells #[.string mt, .string ms, .slice pa mp.length c] 69)
    have hb3 := Bt hb2 hst
    have hs3 := hsl.below hst
    have cA := Lib.hid (media_Param mt ms charS pa c mp _ hs3 (by omega))
    have cJ := Lib.hid (fun W => media_JSON mt ms pa mp.length c W (by omega))
    obtain ⟨k0, k1, k2⟩ := hm3.cells
    have hsz : ∀ v, paramM mp charS = some v → v.size ≤ 1000 := by
      intro v hv
      unfold paramM at hv
      cases hf : mp.find? fun x => decide (x.name = charS) with
      | none => rw [hf] at hv; cases hv
      | some x => rw [hf] at hv; cases hv; exact z4 x (List.mem_of_find?_eq_some hf)
    have HSZ := Lib.hid hsz
    clear hm hmay hsl hst hb2 z4 hsz
    generalize jsonB mt ms = jb at *
    go_wp2_with fail
    refine cA.out.mono ?_
    rintro e w4 ⟨hb4, h⟩
    have hm4 := hm3.below hb4
    have hb34 := Bt hb3 hb4
    obtain ⟨l0, l1, l2⟩ := hm4.cells
    clear k0 k1 k2 hm3 hb3 hb4 cA hs3
    rcases h with ⟨hp, rfl⟩ | ⟨v, hp, rfl⟩
    · have hmm : mayM ⟨mt, ms, mp⟩ = jb := by rw [HMAY.out]; simp only [hp]; simp
      go_wp2_with fail
      refine (cJ.out _).mono ?_
      rintro e w5 ⟨rfl, hb5⟩
      have hb35 := Bt hb34 hb5
      cases jb
      · have HX := Lib.hid (HN.out hmm)
        clear hmm hp
        go_wp2_with fail
        refine (api_Fail' 42 0 _).mono ?_
        rintro e w6 ⟨u, rfl, hu, hb6⟩
        have hb36 := Bt hb35 hb6
        go_wp2_with fail
        go_ret
        exact ⟨hb36, u, rfl, .inr (.inl ⟨HX.out, hu⟩)⟩
      · have HX := Lib.hid (HY.out hmm)
        clear hmm hp
        go_wp2_with fail
        go_ret
        exact ⟨hb35, _, rfl, .inl ⟨HX.out, rfl⟩⟩
    · have hmm : mayM ⟨mt, ms, mp⟩ = (jb && sameB v utf8S) := by rw [HMAY.out]; simp only [hp]
      have hvz := HSZ.out v hp
      have cS := Lib.hid (fun W => fold_Same v utf8S W (by omega) (by decide))
      generalize sameB v utf8S = sb at *
      clear hp
      go_wp2_with fail
      refine (cJ.out _).mono ?_
      rintro e w5 ⟨rfl, hb5⟩
      have hb35 := Bt hb34 hb5
      cases jb
      · have HX := Lib.hid (HN.out hmm)
        clear hmm
        go_wp2_with fail
        refine (api_Fail' 42 0 _).mono ?_
        rintro e w6 ⟨u, rfl, hu, hb6⟩
        have hb36 := Bt hb35 hb6
        go_wp2_with fail
        go_ret
        exact ⟨hb36, u, rfl, .inr (.inl ⟨HX.out, hu⟩)⟩
      · have HMM := Lib.hid hmm
        clear hmm
        go_wp2_with fail
        refine (cS.out _).mono ?_
        rintro e w7 ⟨rfl, hb7⟩
        have hb37 := Bt hb35 hb7
        cases sb
        · have HX := Lib.hid (HN.out HMM.out)
          go_wp2_with fail
          refine (api_Fail' 42 0 _).mono ?_
          rintro e w6 ⟨u, rfl, hu, hb6⟩
          have hb36 := Bt hb37 hb6
          go_wp2_with fail
          go_ret
          exact ⟨hb36, u, rfl, .inr (.inl ⟨HX.out, hu⟩)⟩
        · have HX := Lib.hid (HY.out HMM.out)
          go_wp2_with fail
          go_ret
          exact ⟨hb37, _, rfl, .inl ⟨HX.out, rfl⟩⟩
  · have hk0 := parseM_kind hk
    have HK := Lib.hid (acc_err hk)
    have HK0 := Lib.hid hk0
    have hst := (Below.refl w2.heap.size w2).alloc (Nat.le_refl _) (.cells #[.string ⟨#[]⟩, .string ⟨#[]⟩, .slice none 0 0] 69)
    have hb3 := Bt hb2 hst
    have hv3 := FaultIs.below hv hst
    obtain ⟨q, rfl⟩ := hv.ne_nil
    have HV := Lib.hid hv3
    clear hk hk0 hv hst hb2 hv3
    go_wp2_with fail
    refine (wrap_fault 42 0 _ _ ⟨_, _, rfl⟩).mono ?_
    rintro e w4 ⟨u, rfl, hu, hb4⟩
    have hb34 := Bt hb3 hb4
    have HU := Lib.hid hu
    have HV4 := Lib.hid (FaultIs.below HV.out hb4)
    clear hu hb4
    go_wp2_with fail
    go_ret
    exact ⟨hb34, u, rfl, .inr (.inr ⟨by rw [HK.out], by rw [HK.out]; exact HK0.out, _, _, HU.out, by rw [HK.out]; exact HV4.out⟩)⟩
end Go.Proofs.YtkgifenidmbdkaaDoor

/- What Accept gives: plain facts. -/
namespace Go.Proofs.YtkgifenidmbdkaaDoor
open Go.RowKit
theorem IsAcc.iface {w : World} {v : Value} {a : Nat × Nat} (h : IsAcc w v a) (hn : a.1 ≠ 0) : ∃ p, v = .iface 61 (.pointer (some p)) := by
  rcases h with ⟨rfl, _⟩ | ⟨_, hv⟩ | ⟨_, _, u, i, hv, _⟩
  · exact absurd rfl hn
  · obtain ⟨b, rfl, _⟩ := hv; exact ⟨_, rfl⟩
  · obtain ⟨b, rfl, _⟩ := hv; exact ⟨_, rfl⟩
theorem IsAcc.zero {w : World} {v : Value} {a : Nat × Nat} (h : IsAcc w v a) (hn : a.1 = 0) : a = (0, 0) ∧ v = .nilIface := by
  rcases h with h | ⟨rfl, _⟩ | ⟨h42, _⟩
  · exact h
  · cases hn
  · rw [hn] at h42; cases h42
end Go.Proofs.YtkgifenidmbdkaaDoor

/- wire.Judge. -/
namespace Go.Proofs.YtkgifenidmbdkaaDoor
open Go.RowKit

/-- The kind of the error of a response. -/
def judgeN (apple : Bool) (st : Int) (redir tmo : Bool) (ty : ByteArray) (n : Nat) : Nat :=
  if tmo = true then 43 else if redir = true ∨ (300 ≤ st ∧ st ≤ 399) then 41 else if st ≠ 200 then 40 else
  if (apple = false ∨ 0 < ty.size) ∧ (acceptM ty).1 ≠ 0 then 42 else if (if apple = true then 131072 else 1048576) < n then 14 else 0
theorem judge_tmo {apple : Bool} {st : Int} {redir : Bool} {ty : ByteArray} {n : Nat} : judgeN apple st redir true ty n = 43 := by simp [judgeN]
theorem judge_redir {apple : Bool} {st : Int} {ty : ByteArray} {n : Nat} : judgeN apple st true false ty n = 41 := by simp [judgeN]
theorem judge_3xx {apple : Bool} {st : Int} {ty : ByteArray} {n : Nat} (h : 300 ≤ st) (h2 : st ≤ 399) : judgeN apple st false false ty n = 41 := by
  unfold judgeN; rw [if_neg (by decide), if_pos (.inr ⟨h, h2⟩)]
theorem judge_status {apple : Bool} {st : Int} {ty : ByteArray} {n : Nat} (h : ¬ (300 ≤ st ∧ st ≤ 399)) (h2 : st ≠ 200) : judgeN apple st false false ty n = 40 := by
  unfold judgeN; rw [if_neg (by decide), if_neg (by simp; exact fun a => by omega), if_pos h2]
theorem judge_200 {apple : Bool} {ty : ByteArray} {n : Nat} : judgeN apple 200 false false ty n = if (apple = false ∨ 0 < ty.size) ∧ (acceptM ty).1 ≠ 0 then 42 else if (if apple = true then 131072 else 1048576) < n then 14 else 0 := by
  unfold judgeN; rw [if_neg (by decide), if_neg (by decide), if_neg (by decide)]
theorem judge_acc {apple : Bool} {ty : ByteArray} {n : Nat} (h : apple = false ∨ 0 < ty.size) (k : Nat) (hk : (acceptM ty).1 = k) (h2 : k ≠ 0) : judgeN apple 200 false false ty n = 42 := by
  subst hk; rw [judge_200, if_pos ⟨h, h2⟩]
theorem judge_fit {apple : Bool} {ty : ByteArray} {n : Nat} (h : ¬ (apple = false ∨ 0 < ty.size) ∨ (acceptM ty).1 = 0) (h2 : ¬ (if apple = true then 131072 else 1048576) < n) : judgeN apple 200 false false ty n = 0 := by
  rw [judge_200, if_neg, if_neg h2]
  rintro ⟨h3, h4⟩
  rcases h with h | h
  · exact h h3
  · exact h4 h
theorem judge_long {apple : Bool} {ty : ByteArray} {n : Nat} (h : ¬ (apple = false ∨ 0 < ty.size) ∨ (acceptM ty).1 = 0) (h2 : (if apple = true then 131072 else 1048576) < n) : judgeN apple 200 false false ty n = 14 := by
  rw [judge_200, if_neg, if_pos h2]
  rintro ⟨h3, h4⟩
  rcases h with h | h
  · exact h h3
  · exact h4 h
def JudgePost (apple : Bool) (st : Int) (redir tmo : Bool) (ty : ByteArray) (n : Nat) (w : World) (e : Ending) (w' : World) : Prop := Below w.heap.size w w' ∧ ∃ v, e = .returned v ∧ IsErr w' v (judgeN apple st redir tmo ty n) 0
set_option maxHeartbeats 6400000 in
set_option maxRecDepth 100000 in
theorem wire_Judge (apple : Bool) (id st : Int) (redir tmo : Bool) (ty ca : ByteArray) (pa : Option Addr) (n c : Nat) (w : World) :
    Calls Tryd.prog 11 #[.bool apple, .agg #[.int .u64 id, .int .i64 st, .bool redir, .bool tmo, .string ty, .string ca, .slice pa n c]] w (JudgePost apple st redir tmo ty n w) := by
  cases tmo with
  | true =>
    have HJ := Lib.hid (@judge_tmo apple st redir ty n)
    have hst : Below w.heap.size w (w.alloc (.cells #[.int .u64 id, .int .i64 st, .bool redir, .bool true, .string ty, .string ca, .slice pa n c] 46)) := (Below.refl _ _).alloc (Nat.le_refl _) _
    cases apple
    · go_enter Tryd.func11, Tryd.ntmps11
      go_wp2_with fail
      refine (api_Fail' 43 0 _).mono ?_
      rintro e w3 ⟨v, rfl, hv, hb3⟩
      have hbx := Bt hst hb3
      go_wp2_with fail
      go_ret
      exact ⟨hbx, v, rfl, by rw [HJ.out]; exact .inr ⟨by decide, _, hv⟩⟩
    · go_enter Tryd.func11, Tryd.ntmps11
      go_wp2_with fail
      refine (api_Fail' 43 0 _).mono ?_
      rintro e w3 ⟨v, rfl, hv, hb3⟩
      have hbx := Bt hst hb3
      go_wp2_with fail
      go_ret
      exact ⟨hbx, v, rfl, by rw [HJ.out]; exact .inr ⟨by decide, _, hv⟩⟩
  | false =>
    cases redir with
    | true =>
      have HJ := Lib.hid (@judge_redir apple st ty n)
      have hst : Below w.heap.size w (w.alloc (.cells #[.int .u64 id, .int .i64 st, .bool true, .bool false, .string ty, .string ca, .slice pa n c] 46)) := (Below.refl _ _).alloc (Nat.le_refl _) _
      cases apple
      · go_enter Tryd.func11, Tryd.ntmps11
        go_wp2_with fail
        refine (api_Fail' 41 0 _).mono ?_
        rintro e w3 ⟨v, rfl, hv, hb3⟩
        have hbx := Bt hst hb3
        go_wp2_with fail
        go_ret
        exact ⟨hbx, v, rfl, by rw [HJ.out]; exact .inr ⟨by decide, _, hv⟩⟩
      · go_enter Tryd.func11, Tryd.ntmps11
        go_wp2_with fail
        refine (api_Fail' 41 0 _).mono ?_
        rintro e w3 ⟨v, rfl, hv, hb3⟩
        have hbx := Bt hst hb3
        go_wp2_with fail
        go_ret
        exact ⟨hbx, v, rfl, by rw [HJ.out]; exact .inr ⟨by decide, _, hv⟩⟩
    | false =>
      by_cases h3 : 300 ≤ st ∧ st ≤ 399
      · have HJ := Lib.hid (@judge_3xx apple st ty n h3.1 h3.2)
        obtain ⟨h31, h32⟩ := h3
        have h33 : st < 400 := by omega
        have hst : Below w.heap.size w (w.alloc (.cells #[.int .u64 id, .int .i64 st, .bool false, .bool false, .string ty, .string ca, .slice pa n c] 46)) := (Below.refl _ _).alloc (Nat.le_refl _) _
        cases apple
        · go_enter Tryd.func11, Tryd.ntmps11
          go_wp2_with fail
          refine (api_Fail' 41 0 _).mono ?_
          rintro e w3 ⟨v, rfl, hv, hb3⟩
          have hbx := Bt hst hb3
          go_wp2_with fail
          go_ret
          exact ⟨hbx, v, rfl, by rw [HJ.out]; exact .inr ⟨by decide, _, hv⟩⟩
        · go_enter Tryd.func11, Tryd.ntmps11
          go_wp2_with fail
          refine (api_Fail' 41 0 _).mono ?_
          rintro e w3 ⟨v, rfl, hv, hb3⟩
          have hbx := Bt hst hb3
          go_wp2_with fail
          go_ret
          exact ⟨hbx, v, rfl, by rw [HJ.out]; exact .inr ⟨by decide, _, hv⟩⟩
      · by_cases h2 : st = 200
        · subst h2
          clear h3
          have hst : Below w.heap.size w (w.alloc (.cells #[.int .u64 id, .int .i64 200, .bool false, .bool false, .string ty, .string ca, .slice pa n c] 46)) := (Below.refl _ _).alloc (Nat.le_refl _) _
          cases apple with
          | false =>
            have htk : (if false = true then 131072 else 1048576) = 1048576 := rfl
            have hh := heap_alloc_new w (.cells #[.int .u64 id, .int .i64 200, .bool false, .bool false, .string ty, .string ca, .slice pa n c] 46)
            have cA := Lib.hid (fun W => media_Accept ty W)
            go_enter Tryd.func11, Tryd.ntmps11
            go_wp2_with fail
            refine (cA.out _).mono ?_
            rintro e w2 ⟨hb2, v, rfl, hv⟩
            have hb12 := Bt hst hb2
            have hh2 := (hb2.block w.heap.size (by simp)).trans hh
            have c6 : w2.cell? ⟨w.heap.size, 6, none⟩ = some (.slice pa n c) := by rw [cell_of_row w2 w.heap.size 6 _ _ _ hh2]; rfl
            have hj := fun k h => @judge_acc false ty n (.inl rfl) k h
            have hjz := fun h => @judge_fit false ty n (Or.inr h)
            have hjl := fun h => @judge_long false ty n (Or.inr h)
            clear hh hst hb2 hh2 cA
            generalize acceptM ty = ac at *
            by_cases ha : ac.1 = 0
            · obtain ⟨_, rfl⟩ := hv.zero ha
              by_cases hn : 1048576 < n
              · have HJ := Lib.hid (hjl ha (by simpa using hn))
                have hnI : (n : Int) > 1048576 := by omega
                clear hn
                go_wp2_with fail
                refine (api_Fail' 14 0 _).mono ?_
                rintro e w3 ⟨v, rfl, hv, hb3⟩
                have hbx := Bt hb12 hb3
                go_wp2_with fail
                go_ret
                exact ⟨hbx, v, rfl, by rw [HJ.out]; exact .inr ⟨by decide, _, hv⟩⟩
              · have HJ := Lib.hid (hjz ha (by simpa using hn))
                have hnI : ¬ (n : Int) > 1048576 := by omega
                clear hn
                go_wp2_with fail
                go_ret
                exact ⟨hb12, _, rfl, by rw [HJ.out]; exact .inl ⟨rfl, rfl⟩⟩
            · obtain ⟨p, rfl⟩ := hv.iface ha
              have HJ := Lib.hid (hj ac.1 rfl ha)
              have h42 : ac.1 = 42 := by
                rcases hv with ⟨rfl, _⟩ | ⟨rfl, _⟩ | ⟨h, _⟩
                · exact absurd rfl ha
                · rfl
                · exact h
              clear hj hjz hjl hv ha h42
              go_wp2_with fail
              refine (wrap_fault 42 0 _ _ ⟨_, _, rfl⟩).mono ?_
              rintro e w3 ⟨u, rfl, hu, hb3⟩
              have hbx := Bt hb12 hb3
              go_wp2_with fail
              go_ret
              exact ⟨hbx, u, rfl, by rw [HJ.out]; exact .inr ⟨by decide, _, hu⟩⟩
          | true =>
            have htk : (if true = true then 131072 else 1048576) = 131072 := rfl
            by_cases hz : 0 < ty.size
            · have e0 := isEmpty_no hz
              have hh := heap_alloc_new w (.cells #[.int .u64 id, .int .i64 200, .bool false, .bool false, .string ty, .string ca, .slice pa n c] 46)
              have cA := Lib.hid (fun W => media_Accept ty W)
              go_enter Tryd.func11, Tryd.ntmps11
              go_wp2_with fail
              refine (cA.out _).mono ?_
              rintro e w2 ⟨hb2, v, rfl, hv⟩
              have hb12 := Bt hst hb2
              have hh2 := (hb2.block w.heap.size (by simp)).trans hh
              have c6 : w2.cell? ⟨w.heap.size, 6, none⟩ = some (.slice pa n c) := by rw [cell_of_row w2 w.heap.size 6 _ _ _ hh2]; rfl
              have hj := fun k h => @judge_acc true ty n (.inr hz) k h
              have hjz := fun h => @judge_fit true ty n (Or.inr h)
              have hjl := fun h => @judge_long true ty n (Or.inr h)
              clear hh hst hb2 hh2 cA
              generalize acceptM ty = ac at *
              by_cases ha : ac.1 = 0
              · obtain ⟨_, rfl⟩ := hv.zero ha
                by_cases hn : 131072 < n
                · have HJ := Lib.hid (hjl ha (by simpa using hn))
                  have hnI : (n : Int) > 131072 := by omega
                  clear hn
                  go_wp2_with fail
                  refine (api_Fail' 14 0 _).mono ?_
                  rintro e w3 ⟨v, rfl, hv, hb3⟩
                  have hbx := Bt hb12 hb3
                  go_wp2_with fail
                  go_ret
                  exact ⟨hbx, v, rfl, by rw [HJ.out]; exact .inr ⟨by decide, _, hv⟩⟩
                · have HJ := Lib.hid (hjz ha (by simpa using hn))
                  have hnI : ¬ (n : Int) > 131072 := by omega
                  clear hn
                  go_wp2_with fail
                  go_ret
                  exact ⟨hb12, _, rfl, by rw [HJ.out]; exact .inl ⟨rfl, rfl⟩⟩
              · obtain ⟨p, rfl⟩ := hv.iface ha
                have HJ := Lib.hid (hj ac.1 rfl ha)
                have h42 : ac.1 = 42 := by
                  rcases hv with ⟨rfl, _⟩ | ⟨rfl, _⟩ | ⟨h, _⟩
                  · exact absurd rfl ha
                  · rfl
                  · exact h
                clear hj hjz hjl hv ha h42
                go_wp2_with fail
                refine (wrap_fault 42 0 _ _ ⟨_, _, rfl⟩).mono ?_
                rintro e w3 ⟨u, rfl, hu, hb3⟩
                have hbx := Bt hb12 hb3
                go_wp2_with fail
                go_ret
                exact ⟨hbx, u, rfl, by rw [HJ.out]; exact .inr ⟨by decide, _, hu⟩⟩
            · have e0 := isEmpty_yes (show ty.size = 0 by omega)
              have e1 : ty.toList = [] := by simpa using e0
              have hnz : ¬ (true = false ∨ 0 < ty.size) := fun h => by rcases h with h | h; cases h; exact hz h
              have hjz := @judge_fit true ty n (Or.inl hnz)
              have hjl := @judge_long true ty n (Or.inl hnz)
              clear hnz hz
              by_cases hn : 131072 < n
              · have HJ := Lib.hid (hjl (by simpa using hn))
                have hnI : (n : Int) > 131072 := by omega
                clear hn hjz hjl
                go_enter Tryd.func11, Tryd.ntmps11
                go_wp2_with fail
                refine (api_Fail' 14 0 _).mono ?_
                rintro e w3 ⟨v, rfl, hv, hb3⟩
                have hbx := Bt hst hb3
                go_wp2_with fail
                go_ret
                exact ⟨hbx, v, rfl, by rw [HJ.out]; exact .inr ⟨by decide, _, hv⟩⟩
              · have HJ := Lib.hid (hjz (by simpa using hn))
                have hnI : ¬ (n : Int) > 131072 := by omega
                clear hn hjz hjl
                go_enter Tryd.func11, Tryd.ntmps11
                go_wp2_with fail
                go_ret
                exact ⟨hst, _, rfl, by rw [HJ.out]; exact .inl ⟨rfl, rfl⟩⟩
        · have HJ := Lib.hid (@judge_status apple st ty n h3 h2)
          have h2I : (st != 200) = true := by simpa using h2
          have hst : Below w.heap.size w (w.alloc (.cells #[.int .u64 id, .int .i64 st, .bool false, .bool false, .string ty, .string ca, .slice pa n c] 46)) := (Below.refl _ _).alloc (Nat.le_refl _) _
          by_cases h4 : 300 ≤ st
          · have h5 : ¬ st < 400 := by omega
            clear h3 h2
            cases apple
            · go_enter Tryd.func11, Tryd.ntmps11
              go_wp2_with fail
              refine (api_Fail' 40 0 _).mono ?_
              rintro e w3 ⟨v, rfl, hv, hb3⟩
              have hbx := Bt hst hb3
              go_wp2_with fail
              go_ret
              exact ⟨hbx, v, rfl, by rw [HJ.out]; exact .inr ⟨by decide, _, hv⟩⟩
            · go_enter Tryd.func11, Tryd.ntmps11
              go_wp2_with fail
              refine (api_Fail' 40 0 _).mono ?_
              rintro e w3 ⟨v, rfl, hv, hb3⟩
              have hbx := Bt hst hb3
              go_wp2_with fail
              go_ret
              exact ⟨hbx, v, rfl, by rw [HJ.out]; exact .inr ⟨by decide, _, hv⟩⟩
          · clear h3 h2
            cases apple
            · go_enter Tryd.func11, Tryd.ntmps11
              go_wp2_with fail
              refine (api_Fail' 40 0 _).mono ?_
              rintro e w3 ⟨v, rfl, hv, hb3⟩
              have hbx := Bt hst hb3
              go_wp2_with fail
              go_ret
              exact ⟨hbx, v, rfl, by rw [HJ.out]; exact .inr ⟨by decide, _, hv⟩⟩
            · go_enter Tryd.func11, Tryd.ntmps11
              go_wp2_with fail
              refine (api_Fail' 40 0 _).mono ?_
              rintro e w3 ⟨v, rfl, hv, hb3⟩
              have hbx := Bt hst hb3
              go_wp2_with fail
              go_ret
              exact ⟨hbx, v, rfl, by rw [HJ.out]; exact .inr ⟨by decide, _, hv⟩⟩
end Go.Proofs.YtkgifenidmbdkaaDoor

/- What a row's list of package variables gives: errors.errorType, the tables of unicode/utf8. A world that holds them. -/
namespace Go.Proofs.YtkgifenidmbdkaaDoor
open Go.ChangeShapes Go.WideShapes Go.RowKit

/-- The tables of unicode/utf8, as their initialisers lay them. -/
def Utf8Laid (w : World) : Prop := Lib.Utf8Tabs 1 2 w
theorem Utf8Laid.below {w w' : World} (h : Utf8Laid w) (hb : Below w.heap.size w w') : Utf8Laid w' :=
  ⟨fun c hc => (hb.cell (World.block_lt_of_cell? w _ (h.1 c hc))).trans (h.1 c hc),
    fun i hi => ⟨(hb.cell (World.block_lt_of_cell? w _ (h.2 i hi).1)).trans (h.2 i hi).1, (hb.cell (World.block_lt_of_cell? w _ (h.2 i hi).2)).trans (h.2 i hi).2⟩⟩
theorem Utf8Laid.drewN {w : World} (h : Utf8Laid w) (n : Nat) : Utf8Laid (w.drewN n) := h

def u8ren : Go.Shelf.Ren := ⟨fun n => n, fun | 5 => 5 | 119 => 136 | 138 => 139 | 139 => 140 | n => n, fun | 3 => 1 | 4 => 2 | n => n⟩
theorem u8types : U8Types Tryd.prog u8ren := { t5 := Tryd.underlying5, t119 := Tryd.underlying136, t138 := Tryd.underlying139, t139 := Tryd.underlying140 }
theorem u8extra : U8Extra Tryd.prog u8ren := { n3 := by kernel_rfl, n4 := by kernel_rfl, y3 := by kernel_rfl, y4 := by kernel_rfl, c5 := by kernel_rfl, c119 := by kernel_rfl, c138 := by kernel_rfl }
theorem u8first : Lib.firstData = Rows.laid_unicode_utf8_first := by kernel_rfl
theorem u8accept : Lib.acceptData = Rows.laid_unicode_utf8_acceptRanges := by kernel_rfl
noncomputable def laidWorld (os : Os) : World :=
  let w0 := World.holding Tryd.prog os ⟨#[], #[], []⟩
  let h1 := w0.heap.modify 0 fun
      | .cells _ t frozen => .cells #[.iface 101 (.agg #[.pointer (some ⟨4, 37, none⟩)])] t frozen
      | o => o
  let h2 := h1.modify 1 fun
      | .cells _ t frozen => .cells (Lib.firstTab.map (Value.int .u8)).toArray t frozen
      | o => o
  let h3 := h2.modify 2 fun
      | .cells _ t frozen => .cells ((List.range 16).flatMap fun i => [Value.int .u8 (Lib.accLo i : Nat), Value.int .u8 (Lib.accHi i : Nat)]).toArray t frozen
      | o => o
  { w0 with heap := h3 }
end Go.Proofs.YtkgifenidmbdkaaDoor
