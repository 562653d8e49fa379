/- puny.Encode, of any numbers; the example of chapter 9's statements. -/
import Derived.Test.YtakcfgmibijdnaaDoorPunyReadsM9
import Derived.Test.YtakcfgmibijdnaaDoorPunyReadsM2
import Derived.Test.YtakcfgmibijdnaaDoorPunyReadsM5
import Derived.Test.YtakcfgmibijdnaaDoorPunyReadsM7

namespace Go.Proofs.YtakcfgmibijdnaaDoor
open Go.RowKit

theorem enc_nil : encE [] = .ok [] := rfl
set_option maxHeartbeats 3200000 in
set_option maxRecDepth 100000 in
theorem puny_Encode0 (a : Option Addr) (cap : Nat) (w : World) : Calls Tryd.prog 28 #[.slice a 0 cap] w (EncPost [] w) := by
  have hbl : Bld (w.alloc (.cells #[.pointer none, .slice none 0 0] 120)) (w.heap.size + 1) w.heap.size [] := Bld.new rfl (heap_alloc_new w _) (by omega)
  have hst : Below w.heap.size w (w.alloc (.cells #[.pointer none, .slice none 0 0] 120)) := (Below.refl _ _).alloc (Nat.le_refl _) _
  have hszA : (w.alloc (.cells #[.pointer none, .slice none 0 0] 120)).heap.size = w.heap.size + 1 := World.size_alloc _ _
  have cL' : ∀ W, W = (w.alloc (.cells #[.pointer none, .slice none 0 0] 120)) → Calls Tryd.prog 61 #[.pointer (some ⟨w.heap.size, 0, none⟩)] W fun e w' => e = .returned (.int .i64 0) ∧ w' = W := fun W h => by subst h; exact bld_Len _ _ _ _ hbl
  have cL := Lib.hid (cL' _ rfl)
  have cC' : ∀ W, Calls Tryd.prog 62 #[.slice a 0 cap] W fun e w' => ∃ v c, e = .returned (.slice v 0 c) ∧ Below W.heap.size W w' := by
    intro W
    cases a with
    | none =>
      refine (Tryd.slices_Clone_int_nil 0 cap W).mono ?_
      rintro e w' ⟨he, rfl⟩
      exact ⟨none, 0, he, Below.refl _ _⟩
    | some ad =>
      refine (Tryd.slices_Clone_int_zero ad cap W).mono ?_
      rintro e w' ⟨v, he, hown, _, hb⟩
      obtain ⟨q, c, rfl⟩ : ∃ q c, v = .slice q 0 c := by
        rcases hown.2 with ⟨e0, _⟩ | ⟨g, cp, cur, e0, _⟩
        · exact ⟨none, 0, e0⟩
        · exact ⟨_, cp, e0⟩
      exact ⟨q, c, he, hb⟩
  have cC := Lib.hid cC'
  clear cC'
  have HBL := Lib.hid hbl
  have HST := Lib.hid hst
  clear cL' hbl hst
  go_enter Tryd.func28, Tryd.ntmps28
  go_wp2_with fail
  go_loopw [23] (fun i wr => i = .int .i64 0 ∧ (w.alloc (.cells #[.pointer none, .slice none 0 0] 120)) = wr) (fun _ _ => 0)
  case atStart => exact ⟨rfl, rfl⟩
  case round =>
    obtain ⟨rfl, rfl⟩ := hrel
    go_wp2_with fail
    refine cL.out.mono ?_
    rintro e w2 ⟨rfl, rfl⟩
    go_wp2_with fail
    refine (cC.out _).mono ?_
    rintro e w3 ⟨v, c, rfl, hb3⟩
    have HB3 := Lib.hid hb3
    clear hb3
    go_wp2_with fail
    refine (Tryd.slices_Sort_int_none v c w3).mono ?_
    rintro e w4 ⟨rfl, hw4⟩
    obtain rfl := hw4.symm
    go_wp2_with fail
    refine (Tryd.slices_Compact_int_empty v c w3).mono ?_
    rintro e w4 ⟨rfl, hw5⟩
    obtain rfl := hw5.symm
    go_wp2_with fail
    go_loopw [9, 10, 11, 12, 51] (fun _ _ _ _ i wr => i = .int .i64 0 ∧ w3 = wr) (fun _ _ _ _ _ _ => 0)
    case atStart => exact ⟨rfl, rfl⟩
    case round =>
      obtain ⟨rfl, rfl⟩ := hrel
      have hb := HST.out.trans (HB3.out.mono (by omega))
      have hsz := HB3.out.size
      have cT := Lib.hid (bld_String _ _ _ _ (HBL.out.below HB3.out) (by omega))
      have HB := Lib.hid hb
      clear hb
      go_wp2_with fail
      refine cT.out.mono ?_
      rintro e w8 ⟨rfl, hb8⟩
      have hbE := HB.out.trans hb8
      go_wp2_with fail
      go_ret2
      exact ⟨hbE, .inr ⟨[], enc_nil, rfl⟩⟩
theorem puny_Encode (x : Value) (zs : List Int) (w : World) (hx : IntsSl w x zs) (hz : zs.length ≤ 9223372036854775807) : Calls Tryd.prog 28 #[x] w (EncPost zs w) := by
  by_cases h0 : zs = []
  · subst h0
    obtain ⟨a, cap, rfl⟩ : ∃ a cap, x = .slice a 0 cap := by
      rcases hx with ⟨_, a, cap, e⟩ | ⟨b, off, cap, e, _⟩
      · exact ⟨a, cap, e⟩
      · exact ⟨_, _, e⟩
    exact puny_Encode0 a cap w
  · have hne : 0 < zs.length := by cases zs with | nil => exact absurd rfl h0 | cons _ _ => simp
    rcases hx with ⟨h, _⟩ | ⟨b, off, cap, rfl, hcap, hcm, hbw, hcell⟩
    · exact absurd h h0
    · by_cases hlong : 256 < zs.length
      · have HE := Lib.hid (encE_long hlong)
        have hlI : (zs.length : Int) > 256 := by omega
        clear hcell hlong
        go_enter Tryd.func28, Tryd.ntmps28
        go_wp2_with fail
        refine (api_Fail' 14 256 _).mono ?_
        rintro e w2 ⟨v, rfl, hv, hb⟩
        go_wp2_with fail
        go_ret2
        exact ⟨hb, .inl ⟨14, 256, v, HE.out, by decide, rfl, hv⟩⟩
      · exact puny_Encode1 b off cap zs w hne (by omega) hcap hcm hbw hcell
/-! ### The example -/
theorem ints_lit (w : World) (l : List Int) (n : Nat) (cs : Array Value) (h : cs = (l.map (Value.int .i64)).toArray) (hn : n = l.length) (hl : 0 < l.length) (hm : l.length ≤ 1000) : IntsSl (w.alloc (.cells cs 3)) (.slice (some ⟨w.heap.size, 0, none⟩) n n) l := by
  subst h hn
  refine .inr ⟨w.heap.size, 0, l.length, rfl, Nat.le_refl _, by unfold maxLen; omega, by simp, fun j hj => ?_⟩
  rw [World.cell?_alloc_at _ _ _ _ rfl]
  simp [List.getD, hj]
theorem sp09E : encE [98, 252, 99, 104, 101, 114] = .ok [98, 99, 104, 101, 114, 45, 107, 118, 97] := by
  rw [encE_ok (by decide) (by decide +kernel)]
  exact congrArg _ sp09
set_option maxHeartbeats 1600000 in
set_option maxRecDepth 100000 in
theorem speaks09 (w : World) : Calls Tryd.prog 27 #[] w fun e w' => e = .returned (.bool true) ∧ Below w.heap.size w w' := by
  have hst : Below w.heap.size w (w.alloc (.cells #[.int .i64 98, .int .i64 252, .int .i64 99, .int .i64 104, .int .i64 101, .int .i64 114] 3)) := (Below.refl _ _).alloc (Nat.le_refl _) _
  have hi := ints_lit w [98, 252, 99, 104, 101, 114] 6 #[.int .i64 98, .int .i64 252, .int .i64 99, .int .i64 104, .int .i64 101, .int .i64 114] rfl rfl (by decide) (by decide)
  have cE' : Calls Tryd.prog 28 #[.slice (some ⟨w.heap.size, 0, none⟩) 6 6] (w.alloc (.cells #[.int .i64 98, .int .i64 252, .int .i64 99, .int .i64 104, .int .i64 101, .int .i64 114] 3)) fun e w' => e = .returned (.tuple #[.string ⟨#[98, 99, 104, 101, 114, 45, 107, 118, 97]⟩, .nilIface]) ∧ Below w.heap.size w w' :=
    (puny_Encode _ _ _ hi (by decide)).mono fun e w' ⟨hb, h⟩ => by
      rcases h with ⟨k, i, v, h1, _⟩ | ⟨l, h1, h2⟩
      · rw [sp09E] at h1; cases h1
      · rw [sp09E] at h1; cases h1; exact ⟨h2, Bt hst hb⟩
  have CE := Lib.hid cE'
  clear cE' hi hst
  go_enter Tryd.func27, Tryd.ntmps27
  go_wp2_with fail
  refine CE.out.mono ?_
  rintro e w2 ⟨rfl, hb2⟩
  go_wp2_with fail
  go_ret
  exact ⟨rfl, hb2⟩
end Go.Proofs.YtakcfgmibijdnaaDoor

/- The walk of PunyAdapts. -/
namespace Go.Proofs.YtakcfgmibijdnaaDoor
open Go.RowKit

set_option maxHeartbeats 1600000 in
set_option maxRecDepth 100000 in
theorem ref_Adapt (delta count : Int) (first : Bool) (w : World) (h1 : delta ≤ 1099511627776) (h2 : count ≤ 1099511627776) :
    Calls Tryd.prog 70 #[.int .i64 delta, .int .i64 count, .bool first] w fun e w' => e = .returned (.int .i64 (adaptZ delta count first)) ∧ w = w' := by
  by_cases hd : delta < 0
  · have HV := Lib.hid (adaptZ_neg (first := first) (count := count) (.inl hd))
    go_enter Tryd.func70, Tryd.ntmps70
    go_wp2_with fail
    go_ret
    exact ⟨ret_i64 HV.out.symm, rfl⟩
  by_cases hc : count < 1
  · have HV := Lib.hid (adaptZ_neg (first := first) (delta := delta) (.inr hc))
    go_enter Tryd.func70, Tryd.ntmps70
    go_wp2_with fail
    go_ret
    exact ⟨ret_i64 HV.out.symm, rfl⟩
  obtain ⟨d, rfl⟩ : ∃ d : Nat, delta = d := ⟨delta.toNat, by omega⟩
  obtain ⟨c, rfl⟩ : ∃ c : Nat, count = c := ⟨count.toNat, by omega⟩
  have hc1 : 1 ≤ c := by omega
  rw [adaptZ_nat d c first hc1]
  have hz := adapt0_le d c first
  have hst := adapt0_int d c first (by omega)
  have hR : adaptL (adapt0 d c first) (adapt0 d c first) 0 = adaptN d c first := rfl
  have HR := Lib.hid hR
  clear hR hd hc
  generalize adaptN d c first = R at *
  generalize adapt0 d c first = D at *
  cases first
  all_goals
    simp only [Bool.false_eq_true, if_false, if_true, reduceIte] at hst
    have hs := congrArg (Value.int .i64) hst
    have HST := Lib.hid hs
    clear hst hs
    go_enter Tryd.func70, Tryd.ntmps70
    go_wp2_with fail
    go_loop [7, 8] (fun x y => ∃ f e k : Nat, x = .int .i64 e ∧ y = .int .i64 k ∧ e ≤ f ∧ k + e ≤ D ∧ adaptL f e k = R) (fun x _ => (intOf x).toNat)
    case atStart => exact ⟨D, D, 0, HST.out, rfl, Nat.le_refl _, by omega, HR.out⟩
    case round =>
      obtain ⟨f, e, k, rfl, rfl, hef, hke, hg⟩ := hrel
      by_cases h5 : 455 < e
      · obtain ⟨f', rfl⟩ : ∃ f', f = f' + 1 := ⟨f - 1, by omega⟩
        rw [adaptL_go h5] at hg
        have HG := Lib.hid hg
        have h5I : (e : Int) > 455 := by omega
        clear hg
        go_wp2_with fail
        go_round
        case rel => exact ⟨f', e / 35, k + 36, by simp, by simp, by omega, by omega, HG.out⟩
        case measure => simp [intOf]; omega
      · rw [adaptL_end h5] at hg
        have h5I : ¬ (e : Int) > 455 := by omega
        have hq : 36 * e / (e + 38) ≤ 36 * e := Nat.div_le_self _ _
        have hqc : ((36 * e / (e + 38) : Nat) : Int) = 36 * (e : Int) / ((e : Int) + 38) := by simp
        have HG := Lib.hid hg
        generalize 36 * e / (e + 38) = q at *
        have HQ := Lib.hid hqc
        clear hg hqc
        go_wp2_with fail
        rw [← HQ.out]
        go_wp2_with fail
        go_ret
        exact ⟨ret_i64 (by rw [wrap64_inA _ (by omega) (by omega), ← HG.out]; simp), rfl⟩
end Go.Proofs.YtakcfgmibijdnaaDoor

/- Rows of numbers of the call's own: appending a row to one; parts of one. -/
namespace Go.Proofs.YtakcfgmibijdnaaDoor
open Go.RowKit

def intsN (l : List Nat) : List Int := l.map fun c : Nat => (c : Int)
theorem intsN_len (l : List Nat) : (intsN l).length = l.length := by simp [intsN]
theorem intsN_app (a b : List Nat) : intsN (a ++ b) = intsN a ++ intsN b := by simp [intsN]
theorem intsN_at (l : List Nat) (j : Nat) (h : j < l.length) : (intsN l).getD j 0 = (l[j] : Int) := by simp [intsN, List.getD, h]
theorem OwnN.cellAt {w : World} {base : Nat} {a : Option Addr} {n c : Nat} {l : List Nat} (h : OwnN w base (.slice a n c) l) {j : Nat} (hj : j < l.length) : ∃ g, a = some ⟨g, 0, none⟩ ∧ base ≤ g ∧ g < w.heap.size ∧ l.length ≤ c ∧ c ≤ maxLen ∧ w.cell? ⟨g, j, none⟩ = some (.int .i64 (l[j] : Int)) := by
  rcases h.2 with ⟨e, h0⟩ | ⟨g, cap, cur, e, hg, hh, h1, h2, _⟩
  · omega
  · cases e
    have := World.ownsRow.cellAt h j (by omega)
    refine ⟨g, rfl, hg, lt_of_block hh, h1, h2, ?_⟩
    rw [this]
    simp [hj, intV]
/-- A part of a row of the call's own. -/
theorem OwnN.part {w : World} {base g c : Nat} {n : Nat} {l : List Nat} (h : OwnN w base (.slice (some ⟨g, 0, none⟩) n c) l) (i j cp : Nat) (hij : i ≤ j) (hj : j ≤ l.length) (hcp : j - i ≤ cp) (hcm : cp ≤ maxLen) : IntsSl w (.slice (some ⟨g, i, none⟩) (j - i) cp) (intsN ((l.take j).drop i)) := by
  have hlen : ((l.take j).drop i).length = j - i := by simp; omega
  by_cases h0 : j - i = 0
  · refine .inl ⟨?_, some ⟨g, i, none⟩, cp, by rw [h0]⟩
    rw [List.eq_nil_of_length_eq_zero (by omega : ((l.take j).drop i).length = 0)]; rfl
  · have hl0 : 0 < l.length := by omega
    obtain ⟨g', e, _, hg, _, _, _⟩ := h.cellAt (j := 0) hl0
    cases e
    refine .inr ⟨g, i, cp, by rw [intsN_len, hlen], by rw [intsN_len, hlen]; exact hcp, hcm, hg, fun k hk => ?_⟩
    rw [intsN_len, hlen] at hk
    obtain ⟨g', e, _, _, _, _, hc⟩ := h.cellAt (j := i + k) (by omega)
    cases e
    rw [hc, intsN_at _ _ (by omega)]
    simp
theorem OwnN.sl {w : World} {base : Nat} {v : Value} {l : List Nat} (h : OwnN w base v l) : IntsSl w v (intsN l) := by
  rcases h.2 with ⟨e, h0⟩ | ⟨g, cap, cur, e, hg, hh, h1, h2, _⟩
  · rw [List.eq_nil_of_length_eq_zero h0]; subst e; exact .inl ⟨rfl, none, 0, rfl⟩
  · subst e
    refine .inr ⟨g, 0, cap, by rw [intsN_len], by rw [intsN_len]; exact h1, h2, lt_of_block hh, fun k hk => ?_⟩
    rw [intsN_len] at hk
    obtain ⟨g', e, _, _, _, _, hc⟩ := h.cellAt (j := k) hk
    cases e
    rw [Nat.zero_add, hc, intsN_at _ _ hk]
theorem OwnN.lit0 (w : World) (base : Nat) (hb : base ≤ w.heap.size) : OwnN (w.alloc (.cells #[] 3)) base (.slice (some ⟨w.heap.size, 0, none⟩) 0 0) [] :=
  World.ownsRow_lit w #[] 0 hb (Nat.zero_le _) rfl
/-- A row of any numbers of the call's own. -/
def OwnZ (w : World) (base : Nat) (v : Value) (l : List Int) : Prop := w.ownsRow base 3 1 v l.length (l.map (Value.int .i64))
theorem ownZ_N {w : World} {base : Nat} {v : Value} {l : List Nat} : OwnZ w base v (intsN l) ↔ OwnN w base v l := by
  unfold OwnZ OwnN
  rw [intsN_len]
  have : (intsN l).map (Value.int .i64) = l.map intV := by unfold intsN; rw [List.map_map]; rfl
  rw [this]
theorem OwnZ.below {w w' : World} {base : Nat} {v : Value} {l : List Int} (h : OwnZ w base v l) (hb : Below w.heap.size w w') : OwnZ w' base v l := ownsRow_below h hb
theorem OwnZ.lit0 (w : World) (base : Nat) (hb : base ≤ w.heap.size) : OwnZ (w.alloc (.cells #[] 3)) base (.slice (some ⟨w.heap.size, 0, none⟩) 0 0) [] :=
  World.ownsRow_lit w #[] 0 hb (Nat.zero_le _) rfl
theorem OwnZ.sl {w : World} {base : Nat} {v : Value} {l : List Int} (h : OwnZ w base v l) : IntsSl w v l := by
  rcases h.2 with ⟨e, h0⟩ | ⟨g, cap, cur, e, hg, hh, h1, h2, _⟩
  · rw [List.eq_nil_of_length_eq_zero h0]; subst e; exact .inl ⟨rfl, none, 0, rfl⟩
  · subst e
    refine .inr ⟨g, 0, cap, rfl, h1, h2, lt_of_block hh, fun k hk => ?_⟩
    have := World.ownsRow.cellAt h k (by omega)
    rw [Nat.zero_add, this]
    simp [hk, List.getD]
theorem wpList_app_intsZ {w : World} {ops : Array Oper} {rest : List Oper} {o : Oper} {a : Act} {Q : Exit → Act → World → Prop} (hgd : o.guard = none) (s x : Operand) (ho : o.op = .call { callee := .builtin .append, args := #[s, x], argTypes := #[59, 59] })
    (base : Nat) (v : Value) (l : List Int) (hs : a.eval s = v) (hown : OwnZ w base v l) (y : Value) (S : List Int) (hx : a.eval x = y) (hy : IntsSl w y S)
    (hl : l.length + S.length ≤ 1073741824) (hbase : base ≤ w.heap.size)
    (h : ∀ v' w', OwnZ w' base v' (l ++ S) → w.grownBy w' v.ownBlock → wpList Tryd.prog ops Q rest (a.put o.dst v') w') : wpList Tryd.prog ops Q (o :: rest) a w := by
  obtain ⟨i, hi, hz, hsize, hby⟩ := info_parts info_int
  rcases hy with ⟨rfl, ad, cap, rfl⟩ | ⟨b, off, cap, rfl, hc, hcm, hbs, hp⟩
  · have hsrc : Src Tryd.prog i.size 59 (.slice ad 0 cap) 0 [] w := by
      cases ad with
      | none => exact Src.ofNil w Tryd.underlying59 cap
      | some ad => exact Src.ofSlice w Tryd.underlying59 ad 0 cap [] (by simp) (by simp) (by simp)
    refine wpList_plain hgd fun K hK => ?_
    have hrun : (Builtin.append_ #[59, 59] o.type #[v, .slice ad 0 cap]).run Tryd.prog w = .ok v w := by
      rcases hown.2 with ⟨e, _⟩ | ⟨g, c, cur, e, _, _, h1, _⟩
      · subst e
        exact run_append_nothing w _ _ _ 3 i Tryd.underlying59 hi none 0 0 (Nat.le_refl _) _ hsrc
      · subst e
        exact run_append_nothing w _ _ _ 3 i Tryd.underlying59 hi _ _ _ h1 _ hsrc
    unfold Oper.wp
    simp [execOp, ho, resolve, invoke, builtin, hs, hx, hrun, Result.andThen]
    refine hK _ _ (h v w (by rw [List.append_nil]; exact hown) (below_grownBy (Below.refl _ _) _))
  · refine wpList_append_own _ hgd s x 59 ho base 3 i (.int .i64 0) 1 8 Tryd.underlying59 hi hz hsize hby rfl (by decide) v _ _ hs hown _ _ cap (S.map (Value.int .i64)) hx (by simp) ?_ ?_ (by unfold maxLen; omega) (by omega) hbase ?_
    · intro j u hj
      have hj' : j < S.length := by
        have := (List.getElem?_eq_some_iff.1 hj).1
        simpa using this
      rw [Addr.add_lit, hp j hj', ← hj]
      simp [hj', List.getD]
    · intro u hu
      obtain ⟨_, _, rfl⟩ := List.mem_map.1 hu
      rfl
    · intro v' w' h1 h2 _
      refine h v' w' ?_ h2
      unfold OwnZ
      rw [List.length_append, List.map_append]
      exact h1
theorem wpList_app_ints {w : World} {ops : Array Oper} {rest : List Oper} {o : Oper} {a : Act} {Q : Exit → Act → World → Prop} (hgd : o.guard = none) (s x : Operand) (ho : o.op = .call { callee := .builtin .append, args := #[s, x], argTypes := #[59, 59] })
    (base : Nat) (v : Value) (l : List Nat) (hs : a.eval s = v) (hown : OwnN w base v l) (y : Value) (S : List Nat) (hx : a.eval x = y) (hy : IntsSl w y (intsN S))
    (hl : l.length + S.length ≤ 1073741824) (hbase : base ≤ w.heap.size)
    (h : ∀ v' w', OwnN w' base v' (l ++ S) → w.grownBy w' v.ownBlock → wpList Tryd.prog ops Q rest (a.put o.dst v') w') : wpList Tryd.prog ops Q (o :: rest) a w := by
  refine wpList_app_intsZ hgd s x ho base v (intsN l) hs (ownZ_N.2 hown) y (intsN S) hx hy (by rw [intsN_len, intsN_len]; exact hl) hbase fun v' w' h1 h2 => h v' w' ?_ h2
  rw [← intsN_app] at h1
  exact ownZ_N.1 h1
end Go.Proofs.YtakcfgmibijdnaaDoor

/- Where a call's own bytes grow, what stood before stands. -/
namespace Go.Proofs.YtakcfgmibijdnaaDoor
open Go.RowKit

theorem OwnB.under {w0 w w' : World} {base : Nat} {v : Value} {l : List UInt8} (h : OwnB w base v l) (hb : Below w0.heap.size w0 w) (hB : w0.heap.size ≤ base) (hg : w.grownBy w' v.ownBlock) : Below w0.heap.size w0 w' :=
  hb.grown hg hb.size (fun j hj => Nat.le_trans hB (World.ownsRow.lt h j hj).1)
theorem row_len {w : World} {base : Nat} {e : TypeId} {size : Nat} {v : Value} {n : Nat} {xs : List Value} (h : w.ownsRow base e size v n xs) : ∃ a cap, v = .slice a n cap := by
  rcases h.2 with ⟨h0, h1⟩ | ⟨g, cap, cur, rfl, _⟩
  · exact ⟨none, 0, by rw [h0, h1]⟩
  · exact ⟨_, _, rfl⟩
end Go.Proofs.YtakcfgmibijdnaaDoor
