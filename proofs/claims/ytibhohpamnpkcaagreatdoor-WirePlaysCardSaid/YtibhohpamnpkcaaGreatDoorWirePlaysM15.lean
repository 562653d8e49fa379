/- All parameters of a text: plain facts. -/
import Derived.Test.YtibhohpamnpkcaaGreatDoorWirePlaysM14
import Derived.Test.YtibhohpamnpkcaaGreatDoorWirePlaysM10
import Derived.Laws.Tables
import Derived.Laws.ResultCell
import Derived.Test.YtibhohpamnpkcaaGreatDoorWirePlaysM12

namespace Go.Proofs.YtibhohpamnpkcaaGreatDoor
open Go.RowKit

theorem quotedG_len : ∀ (n : Nat) (l out v r : List UInt8), l.length ≤ n → quotedG l out = some (v, r) → r.length < l.length + 1 := by
  intro n
  induction n with
  | zero =>
    intro l out v r hl h
    have : l = [] := List.eq_nil_of_length_eq_zero (by omega)
    subst this
    simp [quotedG] at h
  | succ n ih =>
    intro l out v r hl h
    cases l with
    | nil => simp [quotedG] at h
    | cons c l =>
      by_cases hc : c = 34
      · rw [quotedG_end hc] at h; cases h; simp; omega
      · by_cases hc2 : c = 92
        · subst hc2
          cases l with
          | nil => rw [quotedG_esc0] at h; cases h
          | cons d l =>
            rw [quotedG_esc] at h
            have := ih _ _ _ _ (by simp at hl; omega) h
            simp; omega
        · rw [quotedG_step hc hc2] at h
          have := ih _ _ _ _ (by simp at hl; omega) h
          simp; omega
theorem paramG_len {l r : List UInt8} {x : It} (h : paramG l = some (x, r)) : r.length < l.length := by
  have hb : (backG l).2 = false := by
    cases hh : (backG l).2 with
    | false => rfl
    | true => rw [param_bad hh] at h; cases h
  rw [param_good hb] at h
  cases hv : valueG (backG l).1 with
  | none => rw [hv] at h; cases h
  | some y =>
    rw [hv] at h
    simp only [Option.map_some, Option.some.injEq, Prod.mk.injEq] at h
    rw [← h.2]
    have h1 := blankL_len y.2
    have h2 : y.2.length ≤ (backG l).1.length := by
      generalize (backG l).1 = l4 at *
      by_cases hq : ∃ l', l4 = 34 :: l'
      · obtain ⟨l', rfl⟩ := hq
        rw [valueG_mark] at hv
        have := quotedG_len _ _ _ y.1 y.2 (Nat.le_refl _) hv
        simp; omega
      · rw [valueG_tok (fun l' e => hq ⟨l', e⟩)] at hv
        split at hv
        · cases hv; exact tokR_len l4
        · cases hv
    have h3 : (backG l).1.length < l.length := by
      have hb' := hb
      unfold backG at hb' ⊢
      have h4 := markG_len 61 (tokR (blankL (markG 59 l false).1)) ((markG 59 l false).2 || !tokOk (nameG l))
      have h5 := tokR_len (blankL (markG 59 l false).1)
      have h6 := blankL_len (markG 59 l false).1
      have h7 : (markG 59 l false).1.length < l.length := by
        cases h8 : (markG 59 l false).2 with
        | true => rw [h8] at hb'; simp only [Bool.true_or] at hb'; rw [markG_bad] at hb'; cases hb'
        | false =>
          unfold markG at h8 ⊢
          cases l with
          | nil => simp at h8
          | cons z l =>
            by_cases hz : z = 59
            · simp [hz]
            · simp [hz] at h8
      omega
    omega
theorem paramsG_more : ∀ (n m : Nat) (l : List UInt8) (acc : List It), l.length ≤ n → l.length ≤ m → paramsG n l acc = paramsG m l acc := by
  intro n
  induction n with
  | zero =>
    intro m l acc hn hm
    have : l = [] := List.eq_nil_of_length_eq_zero (by omega)
    subst this
    cases m <;> simp [paramsG]
  | succ n ih =>
    intro m l acc hn hm
    cases m with
    | zero =>
      have : l = [] := List.eq_nil_of_length_eq_zero (by omega)
      subst this
      simp [paramsG]
    | succ m =>
      rw [paramsG, paramsG]
      split
      · rfl
      · cases h : paramG l with
        | none => rfl
        | some y =>
          have := paramG_len h
          exact ih m y.2 _ (by omega) (by omega)
/-- All parameters, behind those that there are. -/
def parR (l : List UInt8) (acc : List It) : Option (List It) := paramsG l.length l acc
theorem parR_nil {acc : List It} : parR [] acc = some acc := by simp [parR, paramsG]
theorem parR_none {l : List UInt8} {acc : List It} (hne : l ≠ []) (h : paramG l = none) : parR l acc = none := by
  unfold parR
  cases l with
  | nil => exact absurd rfl hne
  | cons x l => rw [List.length_cons, paramsG, if_neg hne, h]
theorem parR_some {l r : List UInt8} {acc : List It} {x : It} (hne : l ≠ []) (h : paramG l = some (x, r)) : parR l acc = parR r (acc ++ [x]) := by
  have hl := paramG_len h
  unfold parR
  cases l with
  | nil => exact absurd rfl hne
  | cons z l =>
    rw [List.length_cons, paramsG, if_neg hne, h]
    exact paramsG_more _ _ _ _ (by simp at hl; omega) (Nat.le_refl _)
/-- Is a name there twice? (The first place at which one stands that stood before.) -/
def dupN (l : List It) : Bool := (List.range l.length).any fun i => (l.take i).any fun x => decide (x.name = (l.getD i ⟨ByteArray.empty, ByteArray.empty, false⟩).name)
/-- A text's head: type, subtype, what is behind them; is it wrong? -/
def headT (s : ByteArray) : List UInt8 := tokW (blankL s.data.toList)
def headM (s : ByteArray) : List UInt8 × Bool := markG 47 (tokR (blankL s.data.toList)) (!tokOk (headT s))
def headS (s : ByteArray) : List UInt8 := tokW (headM s).1
def headR (s : ByteArray) : List UInt8 := blankL (tokR (headM s).1)
def headB (s : ByteArray) : Bool := (headM s).2 || !tokOk (headS s)
structure Md where
  type : ByteArray
  sub : ByteArray
  params : List It
/-- A text's kind of content, or the error's kind and place. -/
def parseM (s : ByteArray) : Except (Nat × Nat) Md :=
  if 1000 < s.size then .error (14, 1000) else if headB s = true then .error (11, 0) else
  match parR (headR s) [] with
  | none => .error (11, 0)
  | some l => if 8 < l.length then .error (15, 0) else if dupN l = true then .error (31, 0) else .ok ⟨lowerS (ofL (headT s)), lowerS (ofL (headS s)), l⟩
theorem parseM_bad {s : ByteArray} (hs : s.size ≤ 1000) (h : headB s = true) : parseM s = .error (11, 0) := by unfold parseM; rw [if_neg (by omega), if_pos h]
theorem parseM_none {s : ByteArray} (hs : s.size ≤ 1000) (h : headB s = false) (h2 : parR (headR s) [] = none) : parseM s = .error (11, 0) := by unfold parseM; rw [if_neg (by omega), if_neg (by rw [h]; decide), h2]
theorem parseM_many {s : ByteArray} {l : List It} (hs : s.size ≤ 1000) (h : headB s = false) (h2 : parR (headR s) [] = some l) (h3 : 8 < l.length) : parseM s = .error (15, 0) := by unfold parseM; rw [if_neg (by omega), if_neg (by rw [h]; decide), h2]; exact if_pos h3
theorem parseM_dup {s : ByteArray} {l : List It} (hs : s.size ≤ 1000) (h : headB s = false) (h2 : parR (headR s) [] = some l) (h3 : ¬ 8 < l.length) (h4 : dupN l = true) : parseM s = .error (31, 0) := by unfold parseM; rw [if_neg (by omega), if_neg (by rw [h]; decide), h2]; simp only [if_neg h3, if_pos h4]
theorem parseM_ok {s : ByteArray} {l : List It} (hs : s.size ≤ 1000) (h : headB s = false) (h2 : parR (headR s) [] = some l) (h3 : ¬ 8 < l.length) (h4 : dupN l = false) : parseM s = .ok ⟨lowerS (ofL (headT s)), lowerS (ofL (headS s)), l⟩ := by unfold parseM; rw [if_neg (by omega), if_neg (by rw [h]; decide), h2]; simp only [if_neg h3, h4]; rfl
theorem dupN_yes {l : List It} {i : Nat} {x : It} (h : l[i]? = some x) (h2 : ((l.take i).any fun y => decide (y.name = x.name)) = true) : dupN l = true := by
  unfold dupN
  rw [List.any_eq_true]
  refine ⟨i, List.mem_range.2 (List.getElem?_eq_some_iff.1 h).1, ?_⟩
  rw [List.getD, h]
  exact h2
theorem dupN_no {l : List It} (h : ∀ (i : Nat) (x : It), l[i]? = some x → ((l.take i).any fun y => decide (y.name = x.name)) = false) : dupN l = false := by
  unfold dupN
  rw [List.any_eq_false]
  intro i hi
  have hi := List.mem_range.1 hi
  have := h i _ (List.getElem?_eq_getElem hi)
  rw [List.getD, List.getElem?_eq_getElem hi]
  simpa using this
end Go.Proofs.YtibhohpamnpkcaaGreatDoor

/- A kind of content in a variable of a function's own. -/
namespace Go.Proofs.YtibhohpamnpkcaaGreatDoor
open Go.RowKit

theorem size_media : (Tryz.prog.info? 147).map (·.size) = some 3 := by kernel_rfl
/-- In block g lies a kind of content, its parameters a slice. -/
def MediaAt (w : World) (g : Nat) (n v : ByteArray) (pa : Option Addr) (l c : Nat) : Prop := w.heap[g]? = some (.cells #[.string n, .string v, .slice pa l c] 147 (0, 0))
section
variable {w w' : World} {g : Nat} {n v : ByteArray} {pa : Option Addr} {l c : Nat}
theorem MediaAt.new : MediaAt (w.alloc (.cells #[.string n, .string v, .slice pa l c] 147)) w.heap.size n v pa l c := heap_alloc_new w _
theorem MediaAt.lt (h : MediaAt w g n v pa l c) : g < w.heap.size := lt_of_block h
theorem MediaAt.below (h : MediaAt w g n v pa l c) (hb : Below w.heap.size w w') : MediaAt w' g n v pa l c := (hb.block g h.lt).trans h
theorem MediaAt.drewN (h : MediaAt w g n v pa l c) (m : Nat) : MediaAt (w.drewN m) g n v pa l c := h
theorem MediaAt.set (h : MediaAt w g n v pa l c) (n' v' : ByteArray) (pa' : Option Addr) (l' c' : Nat) : MediaAt (w.setRow g #[.string n', .string v', .slice pa' l' c']) g n' v' pa' l' c' := setRow_heap w g _ _ _ _ h
theorem MediaAt.setType (h : MediaAt w g n v pa l c) (n' : ByteArray) : MediaAt (w.setCell ⟨g, 0, none⟩ (.string n')) g n' v pa l c := by
  unfold MediaAt at h ⊢; simp [World.setCell, Array.getElem?_modify, h]
theorem MediaAt.setSub (h : MediaAt w g n v pa l c) (v' : ByteArray) : MediaAt (w.setCell ⟨g, 1, none⟩ (.string v')) g n v' pa l c := by
  unfold MediaAt at h ⊢; simp [World.setCell, Array.getElem?_modify, h]
theorem MediaAt.setParams (h : MediaAt w g n v pa l c) (pa' : Option Addr) (l' c' : Nat) : MediaAt (w.setCell ⟨g, 2, none⟩ (.slice pa' l' c')) g n v pa' l' c' := by
  unfold MediaAt at h ⊢; simp [World.setCell, Array.getElem?_modify, h]
theorem MediaAt.setOther (h : MediaAt w g n v pa l c) {q : Nat} (hq : q ≠ g) (j : Nat) (u : Value) : MediaAt (w.setCell ⟨q, j, none⟩ u) g n v pa l c := (Below.heap_setCell w ⟨q, j, none⟩ u g (fun e => hq e.symm)).trans h
theorem MediaAt.frozen (h : MediaAt w g n v pa l c) (j : Nat) : w.frozen? ⟨g, j, none⟩ = false := by
  unfold MediaAt at h; simp [World.frozen?, h]
theorem MediaAt.load (h : MediaAt w g n v pa l c) : (loadVar 147 ⟨g, 0, none⟩).run Tryz.prog w = .ok (.agg #[.string n, .string v, .slice pa l c]) w :=
  run_loadVar_row w g _ _ _ _ _ h Tryz.underlying147 rfl (by rw [size_media]; rfl)
theorem MediaAt.cells (h : MediaAt w g n v pa l c) : w.cell? ⟨g, 0, none⟩ = some (.string n) ∧ w.cell? ⟨g, 1, none⟩ = some (.string v) ∧ w.cell? ⟨g, 2, none⟩ = some (.slice pa l c) := by
  unfold MediaAt at h
  refine ⟨?_, ?_, ?_⟩
  · rw [cell_of_row w g 0 _ _ _ h]; rfl
  · rw [cell_of_row w g 1 _ _ _ h]; rfl
  · rw [cell_of_row w g 2 _ _ _ h]; rfl
end
theorem FaultIs.setMedia {w : World} {x : Value} {k i : Int} {m : Value} {g : Nat} {n v : ByteArray} {pa : Option Addr} {l c : Nat} (h : FaultIs w x k i m) (hg : MediaAt w g n v pa l c) (ds : Array Value) : FaultIs (w.setRow g ds) x k i m := by
  obtain ⟨q, rfl, hh⟩ := h
  have hne : q ≠ g := by
    rintro rfl
    unfold MediaAt at hg
    rw [hh] at hg
    injection hg with this
    injection this with h1 h2
    injection h1 with h3
    injection h3 with h4
    cases h4
  exact ⟨q, rfl, (setRow_other w g q ds hne).trans hh⟩
section
variable {fn : Func} {p u : Tmp} {tmps : Array Value} {w : World} {g : Nat} {n v : ByteArray} {pa : Option Addr} {l c : Nat}
theorem results_media (h : fn.results = #[.cell p 147, .tmp u]) (hp : tmps.getD p undef = .pointer (some ⟨g, 0, none⟩)) (hg : MediaAt w g n v pa l c) :
    (results fn tmps).run Tryz.prog w = .ok (.tuple #[.agg #[.string n, .string v, .slice pa l c], tmps.getD u undef]) w := by
  rw [results_cell_tmp h, hp]
  simp [asAddr, Result.andThen, hg.load]
end
section
variable {w : World} {ops : Array Oper} {rest : List Oper} {o : Oper} {a : Act} {Q : Exit → Act → World → Prop}
theorem all_media (n v : ByteArray) (pa : Option Addr) (l c : Nat) : (#[Value.string n, .string v, .slice pa l c] : Array Value).all (·.oneCell') = true := by simp [Value.oneCell']
theorem wpList_store_media (hgd : o.guard = none) (x y : Operand) (ho : o.op = .store 147 x y) (g : Nat) (n v : ByteArray) (pa : Option Addr) (l c : Nat) (hx : a.eval x = .pointer (some ⟨g, 0, none⟩)) (hy : a.eval y = .agg #[.string n, .string v, .slice pa l c]) {n0 v0 : ByteArray} {pa0 : Option Addr} {l0 c0 : Nat} (hg : MediaAt w g n0 v0 pa0 l0 c0)
    (h : MediaAt (w.setRow g #[.string n, .string v, .slice pa l c]) g n v pa l c → wpList Tryz.prog ops Q rest (a.put o.dst undef) (w.setRow g #[.string n, .string v, .slice pa l c])) : wpList Tryz.prog ops Q (o :: rest) a w :=
  wpList_store_row hgd _ x y ho g _ hx hy _ _ hg (by rw [size_media]; rfl) rfl (all_media n v pa l c) (h (hg.set _ _ _ _ _))
end
end Go.Proofs.YtibhohpamnpkcaaGreatDoor

/- slices.IndexFunc and ContainsFunc of items. -/
namespace Go.Proofs.YtibhohpamnpkcaaGreatDoor
open Go.RowKit

/-- The first place at which a test says yes; -1: none. -/
def findI (P : It → Bool) (l : List It) : Int := match l.findIdx? P with | some i => (i : Int) | none => -1
theorem findI_hit {P : It → Bool} {l : List It} {i : Nat} {x : It} (h : l[i]? = some x) (hx : P x = true) (hall : ∀ (j : Nat) (y : It), j < i → l[j]? = some y → P y = false) : findI P l = i := by
  unfold findI
  have : l.findIdx? P = some i := by
    rw [List.findIdx?_eq_some_iff_getElem]
    obtain ⟨hi, rfl⟩ := List.getElem?_eq_some_iff.1 h
    exact ⟨hi, hx, fun j hj => by rw [hall j _ hj (List.getElem?_eq_getElem (by omega))]; decide⟩
  rw [this]
theorem findI_none {P : It → Bool} {l : List It} (hall : ∀ (j : Nat) (y : It), l[j]? = some y → P y = false) : findI P l = -1 := by
  unfold findI
  have : l.findIdx? P = none := by
    rw [List.findIdx?_eq_none_iff]
    intro x hx
    obtain ⟨i, hi, rfl⟩ := List.mem_iff_getElem.1 hx
    exact hall i _ (List.getElem?_eq_getElem hi)
  rw [this]
theorem ItemsOwn.take {w : World} {a : Option Addr} {l : List It} (h : ItemsOwn w a l) (n : Nat) : ItemsOwn w a (l.take n) := by
  intro i p hp
  refine h i p ?_
  rw [List.getElem?_take] at hp
  split at hp
  · exact hp
  · cases hp
/-- A test that a closure makes of items, in whatever world lies behind w. -/
def TestI (w : World) (f : FuncId) (caps : Array Value) (P : It → Bool) : Prop := ∀ (W : World) (x : It), Below w.heap.size w W → Calls Tryz.prog f (#[.agg #[.string x.name, .string x.value, .bool x.has]] ++ caps) W fun e w' => e = .returned (.bool (P x)) ∧ Below W.heap.size W w'
set_option maxHeartbeats 1600000 in
set_option maxRecDepth 100000 in
theorem items_IndexFunc (pa : Option Addr) (c : Nat) (l : List It) (f : FuncId) (q : Nat) (P : It → Bool) (w : World) (hsl : ItemsOwn w pa l) (hl : l.length ≤ 16777216) (eg : ∀ args w, (callFunc f args).run Tryz.prog w = .ok (.enter f args) w) (hf : TestI w f #[.pointer (some ⟨q, 0, none⟩)] P) :
    Calls Tryz.prog 99 #[.slice pa l.length c, .func (.func f) #[] #[.pointer (some ⟨q, 0, none⟩)]] w fun e w' => e = .returned (.int .i64 (findI P l)) ∧ Below w.heap.size w w' := by
  have hF := Lib.hid hf
  clear hf
  go_enter Tryz.func99, Tryz.ntmps99
  go_wp2_with fail
  go_loopw [8] (fun x wr => ∃ i : Nat, i ≤ l.length ∧ x = .int .i64 i ∧ Below w.heap.size w wr ∧ ∀ (j : Nat) (y : It), j < i → l[j]? = some y → P y = false) (fun x _ => l.length - (intOf x).toNat)
  case atStart => exact ⟨0, Nat.zero_le _, rfl, Below.refl _ _, fun j y h => by omega⟩
  case round =>
    obtain ⟨i, hil, rfl, hbr, hall⟩ := hrel
    have HA := Lib.hid hall
    clear hall
    by_cases hlt : i < l.length
    · obtain ⟨x, hx⟩ : ∃ x, l[i]? = some x := ⟨_, List.getElem?_eq_getElem hlt⟩
      obtain ⟨b, rfl, hb, d0, d1, d2⟩ := (hsl.below hbr) i x hx
      have hhit := fun h => findI_hit hx h HA.out
      have hst : P x = false → ∀ (j : Nat) (y : It), j < i + 1 → l[j]? = some y → P y = false := fun h j y hj hy => by
        by_cases hji : j = i
        · subst hji; rw [hx] at hy; cases hy; exact h
        · exact HA.out j y (by omega) hy
      have HHIT := Lib.hid hhit
      have HST := Lib.hid hst
      have cF := Lib.hid (hF.out wr x hbr)
      obtain ⟨xn, xv, xh⟩ := x
      have hiI : (i : Int) < (l.length : Int) := by omega
      clear hhit hst hx HA hF
      generalize P ⟨xn, xv, xh⟩ = r at *
      go_wp2_with fail
      refine cF.out.mono ?_
      rintro e w2 ⟨rfl, hb2⟩
      have hbr2 := Bt hbr hb2
      cases r
      · have HX := Lib.hid (HST.out rfl)
        go_wp2_with fail
        go_roundw
        case rel => exact ⟨i + 1, by omega, by go_num, hbr2, HX.out⟩
        case measure => simp [intOf]; omega
      · have HX := Lib.hid (HHIT.out rfl)
        go_wp2_with fail
        go_ret
        exact ⟨ret_i64 HX.out.symm, hbr2⟩
    · obtain rfl : i = l.length := by omega
      have hn : findI P l = -1 := findI_none fun j y hy => HA.out j y (List.getElem?_eq_some_iff.1 hy).1 hy
      have HN := Lib.hid hn
      clear hn
      go_wp2_with fail
      go_ret
      exact ⟨ret_i64 HN.out.symm, hbr⟩
theorem findI_any (P : It → Bool) (l : List It) : decide (0 ≤ findI P l) = l.any P := by
  unfold findI
  cases h : l.findIdx? P with
  | none =>
    rw [List.findIdx?_eq_none_iff] at h
    have : l.any P = false := by rw [List.any_eq_false]; intro x hx; rw [h x hx]; decide
    rw [this]; rfl
  | some i =>
    rw [List.findIdx?_eq_some_iff_getElem] at h
    obtain ⟨hi, hx, _⟩ := h
    have : l.any P = true := by rw [List.any_eq_true]; exact ⟨l[i], List.getElem_mem _, hx⟩
    rw [this]
    simp
set_option maxHeartbeats 800000 in
theorem items_ContainsFunc (pa : Option Addr) (c : Nat) (l : List It) (f : FuncId) (q : Nat) (P : It → Bool) (w : World) (hsl : ItemsOwn w pa l) (hl : l.length ≤ 16777216) (eg : ∀ args w, (callFunc f args).run Tryz.prog w = .ok (.enter f args) w) (hf : TestI w f #[.pointer (some ⟨q, 0, none⟩)] P) :
    Calls Tryz.prog 97 #[.slice pa l.length c, .func (.func f) #[] #[.pointer (some ⟨q, 0, none⟩)]] w fun e w' => e = .returned (.bool (l.any P)) ∧ Below w.heap.size w w' := by
  have cI := Lib.hid (items_IndexFunc pa c l f q P w hsl hl eg hf)
  have HA := Lib.hid (findI_any P l)
  generalize findI P l = i at *
  clear hf hsl eg
  go_enter Tryz.func97, Tryz.ntmps97
  go_wp2_with fail
  refine cI.out.mono ?_
  rintro e w2 ⟨rfl, hb2⟩
  go_wp2_with fail
  go_ret
  exact ⟨ret_bool HA.out, hb2⟩
end Go.Proofs.YtibhohpamnpkcaaGreatDoor
