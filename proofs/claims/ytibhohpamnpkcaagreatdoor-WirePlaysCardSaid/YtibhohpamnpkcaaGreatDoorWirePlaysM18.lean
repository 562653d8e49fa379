/- media.Param, JSON, Accept. -/
import Derived.Test.YtibhohpamnpkcaaGreatDoorWirePlaysM16
import Derived.Test.YtibhohpamnpkcaaGreatDoorWirePlaysM17

namespace Go.Proofs.YtibhohpamnpkcaaGreatDoor
open Go.RowKit

/-- A name's value. -/
def paramM (l : List It) (n : ByteArray) : Option ByteArray := (l.find? fun x => decide (x.name = n)).map (·.value)
theorem find_ways (l : List It) (n : ByteArray) : (findI (fun x => decide (x.name = n)) l = -1 ∧ paramM l n = none) ∨ ∃ (i : Nat) (x : It), findI (fun x => decide (x.name = n)) l = i ∧ l[i]? = some x ∧ paramM l n = some x.value := by
  unfold findI paramM
  cases h : l.findIdx? fun x => decide (x.name = n) with
  | none =>
    refine .inl ⟨rfl, ?_⟩
    rw [List.findIdx?_eq_none_iff] at h
    have : (l.find? fun x => decide (x.name = n)) = none := by
      rw [List.find?_eq_none]
      intro x hx
      rw [h x hx]; decide
    rw [this]; rfl
  | some i =>
    rw [List.findIdx?_eq_some_iff_getElem] at h
    obtain ⟨hi, hx, hall⟩ := h
    refine .inr ⟨i, l[i], rfl, List.getElem?_eq_getElem hi, ?_⟩
    have : (l.find? fun x => decide (x.name = n)) = some l[i] := by
      rw [List.find?_eq_some_iff_getElem]
      exact ⟨hx, i, hi, rfl, fun j hj => by simpa using hall j hj⟩
    rw [this]; rfl
set_option maxHeartbeats 800000 in
theorem param_fn (b : Nat) (n : ByteArray) (w : World) (hb : w.heap[b]? = some (.cells #[.string n] 9 (0, 0))) : TestI w 100 #[.pointer (some ⟨b, 0, none⟩)] (fun x => decide (x.name = n)) := by
  intro W x hW
  obtain ⟨xn, xv, xh⟩ := x
  have hst : Below W.heap.size W (W.alloc (.cells #[.string xn, .string xv, .bool xh] 102)) := (Below.refl _ _).alloc (Nat.le_refl _) _
  have hlt := lt_of_block hb
  have h1 := (hst.block b (Nat.lt_of_lt_of_le hlt hW.size)).trans ((hW.block b hlt).trans hb)
  have c0 : (W.alloc (.cells #[.string xn, .string xv, .bool xh] 102)).cell? ⟨b, 0, none⟩ = some (.string n) := by rw [cell_of_row _ b 0 _ _ _ h1]; rfl
  have he : (xn.toList == n.toList) = decide (xn = n) := str_eqB xn n
  have HE := Lib.hid he
  clear he h1
  show Calls Tryz.prog 100 #[.agg #[.string xn, .string xv, .bool xh], .pointer (some ⟨b, 0, none⟩)] W _
  go_enter Tryz.func100, Tryz.ntmps100
  go_wp2_with fail
  go_ret
  exact ⟨ret_bool HE.out, hst⟩
set_option maxHeartbeats 1600000 in
set_option maxRecDepth 100000 in
theorem media_Param (a b n : ByteArray) (pa : Option Addr) (c : Nat) (l : List It) (w : World) (hsl : ItemsOwn w pa l) (hl : l.length ≤ 16777216) :
    Calls Tryz.prog 72 #[.agg #[.string a, .string b, .slice pa l.length c], .string n] w fun e w' => Below w.heap.size w w' ∧ ((paramM l n = none ∧ e = .returned (.tuple #[.string ⟨#[]⟩, .bool false])) ∨ ∃ v, paramM l n = some v ∧ e = .returned (.tuple #[.string v, .bool true])) := by
  have hm1 : MediaAt (w.alloc (.cells #[.string a, .string b, .slice pa l.length c] 147)) w.heap.size a b pa l.length c := MediaAt.new
  have hst1 := (Below.refl w.heap.size w).alloc (Nat.le_refl _) (.cells #[.string a, .string b, .slice pa l.length c] 147)
  have hst2 := (Below.refl (w.alloc (.cells #[.string a, .string b, .slice pa l.length c] 147)).heap.size (w.alloc (.cells #[.string a, .string b, .slice pa l.length c] 147))).alloc (Nat.le_refl _) (.cells #[.string n] 9)
  have hm2 := hm1.below hst2
  have hb2 := Bt hst1 hst2
  have hs2 := hsl.below hb2
  have hbx : ((w.alloc (.cells #[.string a, .string b, .slice pa l.length c] 147)).alloc (.cells #[.string n] 9)).heap[w.heap.size + 1]? = some (.cells #[.string n] 9 (0, 0)) := by
    have := heap_alloc_new (w.alloc (.cells #[.string a, .string b, .slice pa l.length c] 147)) (.cells #[.string n] 9)
    rw [World.size_alloc] at this
    exact this
  have cI := Lib.hid (items_IndexFunc pa c l 100 (w.heap.size + 1) (fun x => decide (x.name = n)) _ hs2 hl (enters_of Tryz.func100 (by kernel_rfl) rfl) (param_fn _ n _ hbx))
  have hw := find_ways l n
  have hmf : ∀ (fn : Fn) (first cap : Array Value) (w : World), (Instr.makeFunc fn first cap).run Tryz.prog w = .ok (.func fn first cap) w := fun _ _ _ _ => rfl
  obtain ⟨_, _, k2⟩ := hm2.cells
  clear hbx hst1 hst2 hm1
  rcases hw with ⟨hi, hp⟩ | ⟨i, x, hi, hx, hp⟩
  · rw [hi] at cI
    have HP := Lib.hid hp
    clear hp hi
    go_enter Tryz.func72, Tryz.ntmps72
    go_wp2_with fail
    refine cI.out.mono ?_
    rintro e w3 ⟨rfl, hb3⟩
    have hb4 := Bt hb2 hb3
    go_wp2_with fail
    go_ret2
    exact ⟨hb4, .inl ⟨HP.out, rfl⟩⟩
  · rw [hi] at cI
    have HP := Lib.hid hp
    have hil := (List.getElem?_eq_some_iff.1 hx).1
    have hiI : (i : Int) < (l.length : Int) := by omega
    have HX := Lib.hid hx
    clear hp hi hx
    go_enter Tryz.func72, Tryz.ntmps72
    go_wp2_with fail
    refine cI.out.mono ?_
    rintro e w3 ⟨rfl, hb3⟩
    have hb4 := Bt hb2 hb3
    obtain ⟨q, rfl, hq, d0, d1, d2⟩ := (hs2.below hb3) i x HX.out
    obtain ⟨_, _, k2⟩ := (hm2.below hb3).cells
    clear hs2 hm2
    go_wp2_with fail
    go_ret2
    exact ⟨hb4, .inr ⟨_, HP.out, rfl⟩⟩
def appS : ByteArray := ⟨#[97, 112, 112, 108, 105, 99, 97, 116, 105, 111, 110]⟩
def jsonS : ByteArray := ⟨#[106, 115, 111, 110]⟩
def pkcsS : ByteArray := ⟨#[112, 107, 99, 115, 55, 45, 109, 105, 109, 101]⟩
def sufS : ByteArray := ⟨#[43, 106, 115, 111, 110]⟩
def charS : ByteArray := ⟨#[99, 104, 97, 114, 115, 101, 116]⟩
def utf8S : ByteArray := ⟨#[117, 116, 102, 45, 56]⟩
/-- Is a kind of content JSON? -/
def jsonB (a b : ByteArray) : Bool := decide (a = appS) && (decide (b = jsonS) || (decide (b = pkcsS) || (decide (5 < b.size) && Lib.hasSuffix b.data.toList sufS.data.toList)))
theorem str_yes {a : ByteArray} {l : List UInt8} (h : a = ofL l) : (a.toList == l) = true := by
  rw [h, ByteArray.toList_eq]
  simp [ofL]
theorem str_no {a : ByteArray} {l : List UInt8} (h : a ≠ ofL l) : (a.toList == l) = false := by
  rw [beq_eq_false_iff_ne, ByteArray.toList_eq]
  intro e
  apply h
  rw [← e]
  exact (ofL_list a).symm
set_option maxHeartbeats 1600000 in
set_option maxRecDepth 100000 in
theorem media_JSON (a b : ByteArray) (pa : Option Addr) (l c : Nat) (w : World) (hb : b.size ≤ 16777216) :
    Calls Tryz.prog 73 #[.agg #[.string a, .string b, .slice pa l c]] w fun e w' => e = .returned (.bool (jsonB a b)) ∧ Below w.heap.size w w' := by
  have hm1 : MediaAt (w.alloc (.cells #[.string a, .string b, .slice pa l c] 147)) w.heap.size a b pa l c := MediaAt.new
  have hst1 := (Below.refl w.heap.size w).alloc (Nat.le_refl _) (.cells #[.string a, .string b, .slice pa l c] 147)
  obtain ⟨k0, k1, _⟩ := hm1.cells
  have cS := Lib.hid (fun W => Tryz.strings_HasSuffix b sufS W (by omega))
  clear hm1
  by_cases h1 : a = appS
  · have e1 : (a.toList == [97, 112, 112, 108, 105, 99, 97, 116, 105, 111, 110]) = true := str_yes h1
    by_cases h2 : b = jsonS
    · have e2 : (b.toList == [106, 115, 111, 110]) = true := str_yes h2
      have hj : jsonB a b = true := by unfold jsonB; rw [decide_eq_true h1, decide_eq_true h2]; rfl
      have HJ := Lib.hid hj
      clear h1 h2 hj
      go_enter Tryz.func73, Tryz.ntmps73
      go_wp2_with fail
      go_ret
      exact ⟨ret_bool HJ.out.symm, hst1⟩
    · have e2 : (b.toList == [106, 115, 111, 110]) = false := str_no h2
      by_cases h3 : b = pkcsS
      · have e3 : (b.toList == [112, 107, 99, 115, 55, 45, 109, 105, 109, 101]) = true := str_yes h3
        have hj : jsonB a b = true := by unfold jsonB; rw [decide_eq_true h1, decide_eq_true h3]; simp
        have HJ := Lib.hid hj
        clear h1 h2 h3 hj
        go_enter Tryz.func73, Tryz.ntmps73
        go_wp2_with fail
        go_ret
        exact ⟨ret_bool HJ.out.symm, hst1⟩
      · have e3 : (b.toList == [112, 107, 99, 115, 55, 45, 109, 105, 109, 101]) = false := str_no h3
        by_cases h5 : 5 < b.size
        · have h5I : (b.size : Int) > 5 := by omega
          have hj : jsonB a b = Lib.hasSuffix b.data.toList sufS.data.toList := by unfold jsonB; rw [decide_eq_true h1, decide_eq_false h2, decide_eq_false h3, decide_eq_true h5]; simp
          have HJ := Lib.hid hj
          clear h1 h2 h3 hj
          go_enter Tryz.func73, Tryz.ntmps73
          go_wp2_with fail
          refine (cS.out _).mono ?_
          rintro e w2 ⟨rfl, rfl⟩
          go_wp2_with fail
          go_ret
          exact ⟨ret_bool HJ.out.symm, hst1⟩
        · have h5I : decide ((b.size : Int) > 5) = false := decide_eq_false (by omega)
          have h5J : ¬ (b.size : Int) > 5 := by omega
          have hj : jsonB a b = false := by unfold jsonB; rw [decide_eq_false h2, decide_eq_false h3, decide_eq_false h5]; simp
          have HJ := Lib.hid hj
          clear h1 h2 h3 hj h5
          go_enter Tryz.func73, Tryz.ntmps73
          go_wp2_with fail
          go_ret
          exact ⟨ret_bool HJ.out.symm, hst1⟩
  · have e1 : (a.toList == [97, 112, 112, 108, 105, 99, 97, 116, 105, 111, 110]) = false := str_no h1
    have hj : jsonB a b = false := by unfold jsonB; rw [decide_eq_false h1]; rfl
    have HJ := Lib.hid hj
    clear h1 hj
    go_enter Tryz.func73, Tryz.ntmps73
    go_wp2_with fail
    go_ret
    exact ⟨ret_bool HJ.out.symm, hst1⟩
end Go.Proofs.YtibhohpamnpkcaaGreatDoor

/- media.Accept. -/
namespace Go.Proofs.YtibhohpamnpkcaaGreatDoor
open Go.RowKit

/-- May content of such a kind be read as JSON? -/
def mayM (m : Md) : Bool := jsonB m.type m.sub && (match paramM m.params charS with | none => true | some v => sameB v utf8S)
/-- The error's number, and that of the one that it came from (0: none). -/
def acceptM (s : ByteArray) : Nat × Nat := match parseM s with
  | .error (k, _) => (42, k)
  | .ok m => if mayM m = true then (0, 0) else (42, 0)
/-- An error of kind 42 at 0, of what it came from; or none. -/
def IsAcc (w : World) (v : Value) (a : Nat × Nat) : Prop := (a = (0, 0) ∧ v = .nilIface) ∨ (a = (42, 0) ∧ IsFault w v 42 0) ∨ (a.1 = 42 ∧ a.2 ≠ 0 ∧ ∃ u i, FaultIs w v 42 0 u ∧ IsFault w u (a.2 : Int) i)
theorem IsAcc.below {w w' : World} {v : Value} {a : Nat × Nat} (h : IsAcc w v a) (hb : Below w.heap.size w w') : IsAcc w' v a := by
  rcases h with h | ⟨h, h2⟩ | ⟨h, h0, u, i, h2, h3⟩
  · exact .inl h
  · exact .inr (.inl ⟨h, FaultIs.below h2 hb⟩)
  · exact .inr (.inr ⟨h, h0, u, i, h2.below hb, FaultIs.below h3 hb⟩)
theorem IsAcc.err {w : World} {v : Value} {a : Nat × Nat} (h : IsAcc w v a) : IsErr w v a.1 0 := by
  rcases h with ⟨h, h2⟩ | ⟨h, h2⟩ | ⟨h, h0, u, i, h2, h3⟩
  · exact .inl ⟨by rw [h], h2⟩
  · rw [h]; exact .inr ⟨by decide, _, h2⟩
  · rw [h]; exact .inr ⟨by decide, _, h2⟩
theorem parseM_kind {s : ByteArray} {k i : Nat} (h : parseM s = .error (k, i)) : k ≠ 0 := by
  unfold parseM at h
  split at h
  · cases h; decide
  · split at h
    · cases h; decide
    · split at h
      · cases h; decide
      · split at h
        · cases h; decide
        · split at h
          · cases h; decide
          · cases h
theorem acc_err {s : ByteArray} {k i : Nat} (h : parseM s = .error (k, i)) : acceptM s = (42, k) := by unfold acceptM; rw [h]
theorem acc_yes {s : ByteArray} {m : Md} (h : parseM s = .ok m) (h2 : mayM m = true) : acceptM s = (0, 0) := by unfold acceptM; rw [h]; exact if_pos h2
theorem acc_no {s : ByteArray} {m : Md} (h : parseM s = .ok m) (h2 : mayM m = false) : acceptM s = (42, 0) := by unfold acceptM; rw [h]; exact if_neg (by rw [h2]; decide)
theorem quotedG_size : ∀ (n : Nat) (l out v r : List UInt8), l.length ≤ n → quotedG l out = some (v, r) → v.length ≤ out.length + l.length := by
  intro n
  induction n with
  | zero =>
    intro l out v r hl h
    have : l = [] := List.eq_nil_of_length_eq_zero (by omega)
    subst this
    simp [quotedG] at h
  | succ n ih =>
    intro l out v r hl h
    cases l with
    | nil => simp [quotedG] at h
    | cons c l =>
      by_cases hc : c = 34
      · rw [quotedG_end hc] at h; cases h; simp
      · by_cases hc2 : c = 92
        · subst hc2
          cases l with
          | nil => rw [quotedG_esc0] at h; cases h
          | cons d l =>
            rw [quotedG_esc] at h
            have := ih _ _ _ _ (by simp at hl; omega) h
            simp at this ⊢; omega
        · rw [quotedG_step hc hc2] at h
          have := ih _ _ _ _ (by simp at hl; omega) h
          simp at this ⊢; omega
theorem valueG_size {l v r : List UInt8} (h : valueG l = some (v, r)) : v.length ≤ l.length := by
  by_cases hq : ∃ l', l = 34 :: l'
  · obtain ⟨l', rfl⟩ := hq
    rw [valueG_mark] at h
    have := quotedG_size _ _ _ _ _ (Nat.le_refl _) h
    simp at this ⊢; omega
  · rw [valueG_tok (fun l' e => hq ⟨l', e⟩)] at h
    split at h
    · cases h; exact tokW_len l
    · cases h
theorem paramsG_sizes : ∀ (n : Nat) (l : List UInt8) (acc r : List It) (k : Nat), l.length ≤ k → (∀ x ∈ acc, x.value.size ≤ k) → paramsG n l acc = some r → ∀ x ∈ r, x.value.size ≤ k := by
  intro n
  induction n with
  | zero =>
    intro l acc r k hl ha h
    rw [paramsG] at h
    split at h
    · cases h; exact ha
    · cases h
  | succ n ih =>
    intro l acc r k hl ha h
    rw [paramsG] at h
    split at h
    · cases h; exact ha
    · cases hp : paramG l with
      | none => rw [hp] at h; cases h
      | some y =>
        rw [hp] at h
        have hy := paramG_len hp
        refine ih y.2 _ r k (by omega) (fun x hx => ?_) h
        rcases List.mem_append.1 hx with hx | hx
        · exact ha x hx
        · simp at hx
          subst hx
          have hb : (backG l).2 = false := by
            cases hh : (backG l).2 with
            | false => rfl
            | true => rw [param_bad hh] at hp; cases hp
          rw [param_good hb] at hp
          cases hv : valueG (backG l).1 with
          | none => rw [hv] at hp; cases hp
          | some z =>
            rw [hv] at hp
            simp only [Option.map_some, Option.some.injEq] at hp
            rw [← hp]
            have h1 := valueG_size (v := z.1) (r := z.2) hv
            have h4 := markG_len 61 (tokR (blankL (markG 59 l false).1)) ((markG 59 l false).2 || !tokOk (nameG l))
            have h5 := tokR_len (blankL (markG 59 l false).1)
            have h6 := blankL_len (markG 59 l false).1
            have h7 := markG_len 59 l false
            show (ofL z.1).size ≤ k
            rw [ofL_size]
            unfold backG at h1
            omega
theorem parseM_sizes {s : ByteArray} {m : Md} (h : parseM s = .ok m) : m.type.size ≤ 1000 ∧ m.sub.size ≤ 1000 ∧ m.params.length ≤ 8 ∧ ∀ x ∈ m.params, x.value.size ≤ 1000 := by
  unfold parseM at h
  split at h
  · cases h
  · next hs =>
    have hl : s.data.toList.length = s.size := rfl
    have h1 := tokW_len (blankL s.data.toList)
    have h2 := blankL_len s.data.toList
    have h3 := tokR_len (blankL s.data.toList)
    have h4 := markG_len 47 (tokR (blankL s.data.toList)) (!tokOk (headT s))
    have h5 := tokW_len (headM s).1
    have h6 := tokR_len (headM s).1
    have h7 := blankL_len (tokR (headM s).1)
    have hM : (headM s).1.length ≤ s.size := by unfold headM; omega
    split at h
    · cases h
    · split at h
      · cases h
      · next l hp =>
        split at h
        · cases h
        · next h8 =>
          split at h
          · cases h
          · cases h
            refine ⟨?_, ?_, (by show l.length ≤ 8; omega), ?_⟩
            · rw [lowerS_size, ofL_size]; unfold headT; omega
            · rw [lowerS_size, ofL_size]; unfold headS; omega
            · exact paramsG_sizes _ _ [] _ 1000 (by unfold headR; omega) (fun x hx => by cases hx) hp
def MAccPost (s : ByteArray) (w : World) (e : Ending) (w' : World) : Prop := Below w.heap.size w w' ∧ ∃ v, e = .returned v ∧ IsAcc w' v (acceptM s)
set_option maxHeartbeats 3200000 in
set_option maxRecDepth 100000 in
theorem media_Accept (s : ByteArray) (w : World) : Calls Tryz.prog 46 #[.string s] w (MAccPost s w) := by
  have cP := Lib.hid (fun W => media_Parse s W)
  go_enter Tryz.func46, Tryz.ntmps46
  go_wp2_with fail
  refine (cP.out _).mono ?_
  rintro e w2 ⟨hb2, h⟩
  rcases h with ⟨m, hm, pa, c, rfl, hlc, hcm, hsl⟩ | ⟨k, i, hk, v, rfl, hv⟩
  · obtain ⟨z1, z2, z3, z4⟩ := parseM_sizes hm
    have HY := Lib.hid (fun h => acc_yes hm h)
    have HN := Lib.hid (fun h => acc_no hm h)
    have hmay : mayM m = (jsonB m.type m.sub && (match paramM m.params charS with | none => true | some v => sameB v utf8S)) := rfl
    have HMAY := Lib.hid hmay
    obtain ⟨mt, ms, mp⟩ := m
    simp only at z1 z2 z3 z4 hmay hsl hlc
    have hm3 := MediaAt.new (w := w2) (n := mt) (v := ms) (pa := pa) (l := mp.length) (c := c)
    have hst := (Below.refl w2.heap.size w2).alloc (Nat.le_refl _) (.cells #[.string mt, .string ms, .slice pa mp.length c] 147)
    have hb3 := Bt hb2 hst
    have hs3 := hsl.below hst
    have cA := Lib.hid (media_Param mt ms charS pa c mp _ hs3 (by omega))
    have cJ := Lib.hid (fun W => media_JSON mt ms pa mp.length c W (by omega))
    obtain ⟨k0, k1, k2⟩ := hm3.cells
    have hsz : ∀ v, paramM mp charS = some v → v.size ≤ 1000 := by
      intro v hv
      unfold paramM at hv
      cases hf : mp.find? fun x => decide (x.name = charS) with
      | none => rw [hf] at hv; cases hv
      | some x => rw [hf] at hv; cases hv; exact z4 x (List.mem_of_find?_eq_some hf)
    have HSZ := Lib.hid hsz
    clear hm hmay hsl hst hb2 z4 hsz
    generalize jsonB mt ms = jb at *
    go_wp2_with fail
    refine cA.out.mono ?_
    rintro e w4 ⟨hb4, h⟩
    have hm4 := hm3.below hb4
    have hb34 := Bt hb3 hb4
    obtain ⟨l0, l1, l2⟩ := hm4.cells
    clear k0 k1 k2 hm3 hb3 hb4 cA hs3
    rcases h with ⟨hp, rfl⟩ | ⟨v, hp, rfl⟩
    · have hmm : mayM ⟨mt, ms, mp⟩ = jb := by rw [HMAY.out]; simp only [hp]; simp
      go_wp2_with fail
      refine (cJ.out _).mono ?_
      rintro e w5 ⟨rfl, hb5⟩
      have hb35 := Bt hb34 hb5
      cases jb
      · have HX := Lib.hid (HN.out hmm)
        clear hmm hp
        go_wp2_with fail
        refine (api_Fail' 42 0 _).mono ?_
        rintro e w6 ⟨u, rfl, hu, hb6⟩
        have hb36 := Bt hb35 hb6
        go_wp2_with fail
        go_ret
        exact ⟨hb36, u, rfl, .inr (.inl ⟨HX.out, hu⟩)⟩
      · have HX := Lib.hid (HY.out hmm)
        clear hmm hp
        go_wp2_with fail
        go_ret
        exact ⟨hb35, _, rfl, .inl ⟨HX.out, rfl⟩⟩
    · have hmm : mayM ⟨mt, ms, mp⟩ = (jb && sameB v utf8S) := by rw [HMAY.out]; simp only [hp]
      have hvz := HSZ.out v hp
      have cS := Lib.hid (fun W => fold_Same v utf8S W (by omega) (by decide))
      generalize sameB v utf8S = sb at *
      clear hp
      go_wp2_with fail
      refine (cJ.out _).mono ?_
      rintro e w5 ⟨rfl, hb5⟩
      have hb35 := Bt hb34 hb5
      cases jb
      · have HX := Lib.hid (HN.out hmm)
        clear hmm
        go_wp2_with fail
        refine (api_Fail' 42 0 _).mono ?_
        rintro e w6 ⟨u, rfl, hu, hb6⟩
        have hb36 := Bt hb35 hb6
        go_wp2_with fail
        go_ret
        exact ⟨hb36, u, rfl, .inr (.inl ⟨HX.out, hu⟩)⟩
      · have HMM := Lib.hid hmm
        clear hmm
        go_wp2_with fail
        refine (cS.out _).mono ?_
        rintro e w7 ⟨rfl, hb7⟩
        have hb37 := Bt hb35 hb7
        cases sb
        · have HX := Lib.hid (HN.out HMM.out)
          go_wp2_with fail
          refine (api_Fail' 42 0 _).mono ?_
          rintro e w6 ⟨u, rfl, hu, hb6⟩
          have hb36 := Bt hb37 hb6
          go_wp2_with fail
          go_ret
          exact ⟨hb36, u, rfl, .inr (.inl ⟨HX.out, hu⟩)⟩
        · have HX := Lib.hid (HY.out HMM.out)
          go_wp2_with fail
          go_ret
          exact ⟨hb37, _, rfl, .inl ⟨HX.out, rfl⟩⟩
  · have hk0 := parseM_kind hk
    have HK := Lib.hid (acc_err hk)
    have HK0 := Lib.hid hk0
    have hst := (Below.refl w2.heap.size w2).alloc (Nat.le_refl _) (.cells #[.string ⟨#[]⟩, .string ⟨#[]⟩, .slice none 0 0] 147)
    have hb3 := Bt hb2 hst
    have hv3 := FaultIs.below hv hst
    obtain ⟨q, rfl⟩ := hv.ne_nil
    have HV := Lib.hid hv3
    clear hk hk0 hv hst hb2 hv3
    go_wp2_with fail
    refine (wrap_fault 42 0 _ _ ⟨_, _, rfl⟩).mono ?_
    rintro e w4 ⟨u, rfl, hu, hb4⟩
    have hb34 := Bt hb3 hb4
    have HU := Lib.hid hu
    have HV4 := Lib.hid (FaultIs.below HV.out hb4)
    clear hu hb4
    go_wp2_with fail
    go_ret
    exact ⟨hb34, u, rfl, .inr (.inr ⟨by rw [HK.out], by rw [HK.out]; exact HK0.out, _, _, HU.out, by rw [HK.out]; exact HV4.out⟩)⟩
end Go.Proofs.YtibhohpamnpkcaaGreatDoor

/- What Accept gives: plain facts. -/
namespace Go.Proofs.YtibhohpamnpkcaaGreatDoor
open Go.RowKit
theorem IsAcc.iface {w : World} {v : Value} {a : Nat × Nat} (h : IsAcc w v a) (hn : a.1 ≠ 0) : ∃ p, v = .iface 89 (.pointer (some p)) := by
  rcases h with ⟨rfl, _⟩ | ⟨_, hv⟩ | ⟨_, _, u, i, hv, _⟩
  · exact absurd rfl hn
  · obtain ⟨b, rfl, _⟩ := hv; exact ⟨_, rfl⟩
  · obtain ⟨b, rfl, _⟩ := hv; exact ⟨_, rfl⟩
theorem IsAcc.zero {w : World} {v : Value} {a : Nat × Nat} (h : IsAcc w v a) (hn : a.1 = 0) : a = (0, 0) ∧ v = .nilIface := by
  rcases h with h | ⟨rfl, _⟩ | ⟨h42, _⟩
  · exact h
  · cases hn
  · rw [hn] at h42; cases h42
end Go.Proofs.YtibhohpamnpkcaaGreatDoor
