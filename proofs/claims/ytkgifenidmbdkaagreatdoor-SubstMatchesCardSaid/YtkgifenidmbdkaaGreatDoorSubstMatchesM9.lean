/- subst.Own, values. -/
import Derived.Test.YtkgifenidmbdkaaGreatDoorSubstMatchesM8
import Derived.Test.YtkgifenidmbdkaaGreatDoorSubstMatchesM3
import Derived.Test.YtkgifenidmbdkaaGreatDoorSubstMatchesM6
import Derived.Test.YtkgifenidmbdkaaGreatDoorSubstMatchesM4
import Derived.Test.YtkgifenidmbdkaaGreatDoorSubstMatchesM5
import Derived.Deep.RegionHeld
import Derived.IntWalk
import Derived.Deep.DeepCutAuto

namespace Go.Proofs.YtkgifenidmbdkaaGreatDoor
open Go.RowKit

set_option maxHeartbeats 800000 in
theorem sub_Own (s : ByteArray) (w : World) (hL : ClassLaid w) : Calls Tryz.prog 43 #[.string s] w fun e w' => e = .returned (.bool (ownC s).isSome) ∧ Below w.heap.size w w' := by
  go_enter Tryz.func43, Tryz.ntmps43
  go_wp2_with fail
  refine (sub_own s _ hL).mono ?_
  rintro e w2 ⟨h, hb2⟩
  rcases h with ⟨h1, rfl⟩ | ⟨n, am, sz, h1, _, _, rfl⟩
  · have hal : Below w2.heap.size w2 (w2.alloc (.cells #[.string ⟨#[]⟩, .string ⟨#[]⟩, .int .i64 0] 148)) := (Below.refl _ _).alloc (Nat.le_refl _) _
    have hb3 := Bt hb2 hal
    have H := Lib.hid (show (ownC s).isSome = false by rw [h1]; rfl)
    clear h1 hb2 hal
    go_wp2_with fail
    go_ret
    exact ⟨ret_bool H.out.symm, hb3⟩
  · have hal : Below w2.heap.size w2 (w2.alloc (.cells #[.string n, .string am, .int .i64 (sz : Int)] 148)) := (Below.refl _ _).alloc (Nat.le_refl _) _
    have hb3 := Bt hb2 hal
    have H := Lib.hid (show (ownC s).isSome = true by rw [h1]; rfl)
    clear h1 hb2 hal
    go_wp2_with fail
    go_ret
    exact ⟨ret_bool H.out.symm, hb3⟩
set_option maxHeartbeats 800000 in
theorem val_fn (q : Nat) (s : ByteArray) (l : List (ByteArray × Value)) (w : World) (hq : q < w.heap.size) (hs : w.cell? ⟨q, 0, none⟩ = some (.string s)) (hl : ∀ x ∈ l, ∃ a n c, x.2 = .slice a n c) :
    TestVar w 74 #[.pointer (some ⟨q, 0, none⟩)] (fun x => decide (x.1 = s)) l := by
  intro W x hx hb
  have hc := (hb.cell (p := ⟨q, 0, none⟩) hq).trans hs
  obtain ⟨a, n, c, hxu⟩ := hl x hx
  obtain ⟨xn, xu⟩ := x
  simp only at hxu
  subst hxu
  have he := str_eqB xn s
  have hal : Below W.heap.size W (W.alloc (.cells #[.string xn, .slice a n c] 82)) := (Below.refl _ _).alloc (Nat.le_refl _) _
  have hlt := Nat.lt_of_lt_of_le hq hb.size
  show Calls Tryz.prog _ #[.agg #[.string xn, .slice a n c], .pointer (some ⟨q, 0, none⟩)] W _
  clear hs hq hb hx hl
  simp only
  generalize decide (xn = s) = r at *
  go_enter Tryz.func74, Tryz.ntmps74
  go_wp2_with fail
  go_ret
  exact ⟨ret_bool rfl, hal⟩
theorem val_cases (s : ByteArray) (vars : List SVar) (us : List (ByteArray × Value)) (w : World) (hlen : us.length = vars.length) (h : ∀ (i : Nat) (v : SVar), vars[i]? = some v → ∃ u, us[i]? = some (v.1, u) ∧ StrsV w u v.2) :
    (findG (fun x => decide (x.1 = s)) us = -1 ∧ findV vars s = none) ∨ ∃ i u n l, findG (fun x => decide (x.1 = s)) us = ((i : Nat) : Int) ∧ i < vars.length ∧ us[i]? = some (n, u) ∧ findV vars s = some l ∧ StrsV w u l := by
  unfold findV findG
  cases hf : us.findIdx? (fun x => decide (x.1 = s)) with
  | none =>
    refine .inl ⟨rfl, ?_⟩
    rw [List.findIdx?_eq_none_iff] at hf
    rw [List.find?_eq_none.2 ?_]
    · rfl
    · intro v hv
      obtain ⟨i, hi⟩ := List.getElem?_of_mem hv
      obtain ⟨u, hu, _⟩ := h i v hi
      simpa using hf _ (List.mem_of_getElem? hu)
  | some i =>
    obtain ⟨hi, h1, h2⟩ := List.findIdx?_eq_some_iff_getElem.1 hf
    have hiv : i < vars.length := by omega
    have hx : vars[i]? = some vars[i] := List.getElem?_eq_getElem hiv
    obtain ⟨u, hu, hs⟩ := h i _ hx
    have hui : us[i] = (vars[i].1, u) := by
      have := List.getElem?_eq_getElem hi
      rw [hu] at this
      injection this with this
      exact this.symm
    refine .inr ⟨i, u, vars[i].1, vars[i].2, rfl, hiv, hu, ?_, hs⟩
    have : vars.find? (fun v => decide (v.1 = s)) = some vars[i] := by
      rw [List.find?_eq_some_iff_getElem]
      refine ⟨by rw [hui] at h1; exact h1, i, hiv, rfl, fun j hj => ?_⟩
      obtain ⟨uj, huj, _⟩ := h j _ (List.getElem?_eq_getElem (show j < vars.length by omega))
      have huj' : us[j] = (vars[j].1, uj) := by
        have := List.getElem?_eq_getElem (show j < us.length by omega)
        rw [huj] at this
        injection this with this
        exact this.symm
      have := h2 j hj
      rw [huj'] at this
      simpa using this
    rw [this]; rfl
def ValPost (vars : List SVar) (s : ByteArray) (w : World) (e : Ending) : Prop := (findV vars s = none ∧ e = .returned (.tuple #[.slice none 0 0, .bool false])) ∨ ∃ u l, findV vars s = some l ∧ StrsV w u l ∧ e = .returned (.tuple #[u, .bool true])
theorem us_slices {w : World} {vars : List SVar} {us : List (ByteArray × Value)} (hlen : us.length = vars.length) (h : ∀ (i : Nat) (v : SVar), vars[i]? = some v → ∃ u, us[i]? = some (v.1, u) ∧ StrsV w u v.2) : ∀ x ∈ us, ∃ a n c, x.2 = .slice a n c := by
  intro x hx
  obtain ⟨i, hi⟩ := List.getElem?_of_mem hx
  have hl := (List.getElem?_eq_some_iff.1 hi).1
  obtain ⟨u, hu, a, cap, e, _⟩ := h i _ (List.getElem?_eq_getElem (show i < vars.length by omega))
  rw [hi] at hu
  injection hu with hu
  rw [hu]
  exact ⟨_, _, _, e⟩
set_option maxHeartbeats 1600000 in
set_option maxRecDepth 100000 in
theorem sub_values (a : Option Addr) (cap : Nat) (vars : List SVar) (s : ByteArray) (w : World) (hv : VarsSl w a vars) (hl : vars.length ≤ 16777216) :
    Calls Tryz.prog 44 #[.slice a vars.length cap, .string s] w fun e w' => ValPost vars s w e ∧ Below w.heap.size w w' := by
  obtain ⟨us, h1, h2, h3⟩ := hv
  have hst1 : Below w.heap.size w (w.alloc (.cells #[.string s] 9)) := (Below.refl _ _).alloc (Nat.le_refl _) _
  have hq : (w.alloc (.cells #[.string s] 9)).cell? ⟨w.heap.size, 0, none⟩ = some (.string s) := by simp
  have cI := var_IndexFunc a cap us 74 #[.pointer (some ⟨w.heap.size, 0, none⟩)] (fun x => decide (x.1 = s)) _ (h1.below hst1) (by omega) (enters_of Tryz.func74 (by kernel_rfl) rfl) (val_fn w.heap.size s us _ (by simp) hq (us_slices h2 h3))
  rw [h2] at cI
  have CI := Lib.hid cI
  have hoc := val_cases s vars us w h2 h3
  clear cI hq h3
  go_enter Tryz.func44, Tryz.ntmps44
  go_wp2_with fail
  refine CI.out.mono ?_
  rintro e w2 ⟨rfl, hb2⟩
  have hb02 := Bt hst1 hb2
  have h12 := h1.below hb02
  clear hst1 hb2 CI h1
  rcases hoc with ⟨h1, h2⟩ | ⟨i, u, n, l, h1, hi, h3, h4, h5⟩
  · rw [h1]
    have H2 := Lib.hid h2
    clear h1 h2 h12
    go_wp2_with fail
    go_ret2
    exact ⟨.inl ⟨H2.out, rfl⟩, hb02⟩
  · rw [h1]
    obtain ⟨b, off, rfl, hbw, d0, d1⟩ := h12 i _ h3
    have hiI : (i : Int) < (vars.length : Int) := by omega
    have H4 := Lib.hid h4
    have H5 := Lib.hid h5
    simp only at d0 d1
    clear h1 h3 h4 h5 h12
    go_wp2_with fail
    go_ret2
    exact ⟨.inr ⟨_, _, H4.out, H5.out, rfl⟩, hb02⟩
set_option maxHeartbeats 1600000 in
theorem sub_values' (a : Option Addr) (cap : Nat) (vars : List SVar) (s : ByteArray) (w : World) (hv : VarsSl w a vars) (hl : vars.length ≤ 16777216) :
    Calls Tryz.prog 44 #[.slice a vars.length cap, .string s] w fun e w' => ∃ u, e = .returned (.tuple #[u, .bool (findV vars s).isSome]) ∧ StrsV w' u ((findV vars s).getD []) ∧ Below w.heap.size w w' :=
  (sub_values a cap vars s w hv hl).mono fun e w' ⟨h, hb⟩ => by
    rcases h with ⟨h1, rfl⟩ | ⟨u, l, h1, h2, rfl⟩
    · rw [h1]
      exact ⟨_, rfl, ⟨none, 0, rfl, Nat.le_refl _, fun i s h => by simp at h⟩, hb⟩
    · rw [h1]
      exact ⟨u, rfl, h2.below hb, hb⟩
end Go.Proofs.YtkgifenidmbdkaaGreatDoor

/- utf.Chars: all characters of bytes. -/
namespace Go.Proofs.YtkgifenidmbdkaaGreatDoor
open Go.RowKit

def CharsPost (s : ByteArray) (w : World) (e : Ending) (w' : World) : Prop :=
  Below w.heap.size w w' ∧ (((chrs s).2 = none ∧ ∃ v, e = .returned (.tuple #[v, .nilIface]) ∧ w'.ownsRow w.heap.size 3 1 v (chrs s).1.length ((chrs s).1.map intV)) ∨
    (∃ i, (chrs s).2 = some i ∧ ∃ v, e = .returned (.tuple #[.slice none 0 0, v]) ∧ IsFault w' v 12 i))

set_option maxHeartbeats 1600000 in
set_option maxRecDepth 100000 in
theorem utf_Chars (v : Value) (s : ByteArray) (w : World) (hU : Utf8Laid w) (hs : s.size ≤ 16777216) (hv : BytesSl w v s) :
    Calls Tryz.prog 47 #[v] w (CharsPost s w) := by
  rcases hv with ⟨h0, a, cap, rfl⟩ | ⟨b, off, cap, rfl, hc, hcm, hbs, hp⟩
  · have hz := Lib.hid ((Reach.zero s).done (by omega))
    clear h0
    go_enter Tryz.func47, Tryz.ntmps47
    go_wp2_with fail
    refine wp_loop_rounds 1 ?_
    rw [rounds_succ]
    go_wp2_with fail
    go_ret2
    exact ⟨Below.refl _ _, .inl ⟨by rw [hz.out], _, rfl, by rw [hz.out]; exact World.ownsRow_nil _ _ _ _⟩⟩
  · obtain ⟨i0, hi, hz0, hz1, hz2⟩ := info_parts info_int
    unfold maxLen at hcm
    go_enter Tryz.func47, Tryz.ntmps47
    go_wp2_with fail
    go_loopw [4, 5] (fun v a wr => ∃ (i : Nat) (l : List Nat), i ≤ s.size ∧ a = .int .i64 i ∧ Reach s l i ∧ wr.ownsRow w.heap.size 3 1 v l.length (l.map intV) ∧ Below w.heap.size w wr)
      (fun _ a _ => s.size - (intOf a).toNat)
    case atStart => exact ⟨0, [], Nat.zero_le _, rfl, Reach.zero s, World.ownsRow_nil _ _ _ _, Below.refl _ _⟩
    case round =>
      obtain ⟨i, l, hil, rfl, hr, hown, hbr⟩ := hrel
      have hll : l.length ≤ i := by obtain ⟨_, _, h, _⟩ := hr; exact h
      have HR := Lib.hid hr
      clear hr
      by_cases hlt : i < s.size
      · obtain ⟨hd1, hd2, hd3, hd4⟩ := decB_bounds s i hlt
        clear hd4
        go_wp2_with fail
        refine (utf_Next s i b off cap _ (hU.below hbr) hlt hc hcm (hp.below hbr hbs)).mono ?_
        rintro e w2 ⟨hb2, h⟩
        have hown2 := ownsRow_below hown hb2
        have hbr2 := Bt hbr hb2
        clear hown hbr hb2
        rcases h with ⟨hok, rfl⟩ | ⟨hok, v, rfl, hv⟩
        · have hst := HR.out.step hlt hok
          generalize (decB s i).1 = c at *
          generalize (decB s i).2 = n at *
          have HST := Lib.hid hst
          clear hst hok
          go_wp2_with (at_builtin; refine wpList_append_own _ rfl _ _ 103 rfl w.heap.size 3 i0 (.int .i64 0) 1 8 Tryz.underlying103 hi hz0 hz1 hz2 rfl (by decide) _ _ _ rfl (hown2.alloc _) ⟨w2.heap.size, 0, none⟩ 1 1 [intV c] rfl rfl ?c1 ?c2 ?c3 ?c4 ?c5 ?_)
          case c1 =>
            intro j u hj
            match j, hj with
            | 0, hj => simp at hj; subst hj; simp [Addr.add, intV]
          case c2 => intro u hu; simp at hu; subst hu; rfl
          case c3 => unfold maxLen; omega
          case c4 => omega
          case c5 => have := hbr2.size; simp; omega
          intro v1 w3 hown3 hg3 _
          have hbr3 := below_app hbr2 hown2 (Nat.le_refl _) hg3
          clear hg3 hown2 hbr2
          go_wp2_with fail
          go_roundw
          case rel => exact ⟨i + n, l ++ [c], by omega, by go_num, HST.out, by simpa using hown3, hbr3⟩
          case measure => simp [intOf]; omega
        · obtain ⟨p, rfl⟩ := hv.ne_nil
          have hb := Lib.hid (HR.out.bad hlt hok)
          clear hok
          go_wp2_with fail
          go_ret2
          exact ⟨hbr2, .inr ⟨i, by rw [hb.out], _, rfl, hv⟩⟩
      · have hb := Lib.hid (HR.out.done hlt)
        obtain rfl : i = s.size := by omega
        go_wp2_with fail
        go_ret2
        exact ⟨hbr, .inl ⟨by rw [hb.out], _, rfl, by rw [hb.out]; exact hown⟩⟩

def ValidPost (s : ByteArray) (w : World) (e : Ending) (w' : World) : Prop :=
  Below w.heap.size w w' ∧ (((chrs s).2 = none ∧ e = .returned .nilIface) ∨ (∃ i, (chrs s).2 = some i ∧ ∃ v, e = .returned v ∧ IsFault w' v 12 i))
set_option maxHeartbeats 800000 in
theorem utf_Valid (v : Value) (s : ByteArray) (w : World) (hU : Utf8Laid w) (hs : s.size ≤ 16777216) (hv : BytesSl w v s) :
    Calls Tryz.prog 69 #[v] w (ValidPost s w) := by
  go_enter Tryz.func69, Tryz.ntmps69
  go_wp2_with fail
  refine (utf_Chars v s _ hU hs hv).mono ?_
  rintro e w2 ⟨hb2, h⟩
  rcases h with ⟨hn, v2, rfl, _⟩ | ⟨i, hi, v2, rfl, hv2⟩
  · have HN := Lib.hid hn
    clear hn
    go_wp2_with fail
    go_ret
    exact ⟨hb2, .inl ⟨HN.out, rfl⟩⟩
  · have HN := Lib.hid hi
    clear hi
    go_wp2_with fail
    go_ret
    exact ⟨hb2, .inr ⟨i, HN.out, _, rfl, hv2⟩⟩
end Go.Proofs.YtkgifenidmbdkaaGreatDoor

/- Plain facts: a list of numbers' bytes, or the first one that is no character. -/
namespace Go.Proofs.YtkgifenidmbdkaaGreatDoor

/-- How many of the list's numbers, from its head, are characters. -/
def rightLen : List Int → Nat
  | [] => 0
  | c :: l => if rightB c = true then rightLen l + 1 else 0
def nats (l : List Int) : List Nat := l.map Int.toNat
theorem rightLen_le (l : List Int) : rightLen l ≤ l.length := by
  induction l with
  | nil => exact Nat.le_refl _
  | cons c l ih => unfold rightLen; split <;> simp <;> omega
theorem rightLen_step : ∀ (l : List Int) (i : Nat), i ≤ rightLen l → i < l.length → (rightB (l.getD i 0) = true → i + 1 ≤ rightLen l) ∧ (rightB (l.getD i 0) = false → rightLen l = i) := by
  intro l
  induction l with
  | nil => intro i _ h; simp at h
  | cons c l ih =>
    intro i h1 h2
    unfold rightLen at h1 ⊢
    by_cases hc : rightB c = true
    · rw [if_pos hc] at h1 ⊢
      cases i with
      | zero => exact ⟨fun _ => by omega, fun h => by simp [hc] at h⟩
      | succ i =>
        have := ih i (by omega) (by simpa using h2)
        constructor
        · intro h; have := this.1 (by simpa using h); omega
        · intro h; have := this.2 (by simpa using h); omega
    · rw [if_neg hc] at h1 ⊢
      obtain rfl : i = 0 := by omega
      exact ⟨fun h => absurd (by simpa using h) hc, fun _ => rfl⟩
theorem right_all : ∀ (l : List Int), rightLen l = l.length → ∀ c ∈ nats l, rightC c := by
  intro l
  induction l with
  | nil => intro _ c hc; simp [nats] at hc
  | cons d l ih =>
    intro h c hc
    unfold rightLen at h
    split at h
    · rename_i hd
      simp only [nats, List.map_cons, List.mem_cons] at hc
      rcases hc with rfl | hc
      · have hz := (rightB_iff d).1 hd
        unfold rightZ at hz
        unfold rightC; omega
      · exact ih (by simpa using h) c hc
    · simp at h
theorem nats_take_succ (l : List Int) (i : Nat) (hi : i < l.length) : nats (l.take (i + 1)) = nats (l.take i) ++ [(l.getD i 0).toNat] := by
  unfold nats
  rw [List.take_succ_eq_append_getElem hi, List.map_append]
  simp [hi]
theorem nats_len (l : List Int) : (nats l).length = l.length := by simp [nats]
end Go.Proofs.YtkgifenidmbdkaaGreatDoor

/- utf.Half. -/
namespace Go.Proofs.YtkgifenidmbdkaaGreatDoor
open Go.RowKit

end Go.Proofs.YtkgifenidmbdkaaGreatDoor

/- Rows of numbers that came in: rows of bytes, rows of ints. -/
namespace Go.Proofs.YtkgifenidmbdkaaGreatDoor
open Go.RowKit

/-- A slice of numbers that came in: nil, or a row of so many cells, each fitting its kind. -/
def IsRow (k : IntKind) (w : World) (a : Option Addr) (len cap : Nat) (zs : List Int) : Prop :=
  (a = none ∧ len = 0 ∧ cap = 0 ∧ zs = []) ∨
  ∃ x, a = some x ∧ len ≤ cap ∧ cap ≤ maxLen ∧ zs.length = cap ∧ (∀ i, i < zs.length → w.cell? (x.add i) = some (.int k (zs.getD i 0))) ∧ ∀ n ∈ zs, (Lit.int k n).wf = true

theorem spot_none {w : World} {x : Addr} {v : Value} (h : w.cell? (x.add 0) = some v) : x = ⟨x.block, x.off, none⟩ ∧ x.block < w.heap.size := by
  have hb := World.block_lt_of_cell? w _ h
  cases x with
  | mk b o s =>
    cases s with
    | none => exact ⟨rfl, hb⟩
    | some q =>
      simp only [World.cell?, Addr.add] at h
      split at h <;> simp at h

theorem IsRow.bytes {w : World} {a : Option Addr} {len cap : Nat} {zs : List Int} (h : IsRow .u8 w a len cap zs) : ∃ s : ByteArray, s.size = len ∧ BytesSl w (.slice a len cap) s := by
  rcases h with ⟨rfl, rfl, rfl, rfl⟩ | ⟨x, rfl, hl, hm, hz, hcell, hwz⟩
  · exact ⟨ByteArray.empty, rfl, .inl ⟨rfl, none, 0, rfl⟩⟩
  · have hsz : (⟨((zs.take len).map fun n => UInt8.ofNat n.toNat).toArray⟩ : ByteArray).size = len := by
      show (((zs.take len).map fun n => UInt8.ofNat n.toNat).toArray).size = _
      simp; omega
    refine ⟨⟨((zs.take len).map fun n => UInt8.ofNat n.toNat).toArray⟩, hsz, ?_⟩
    by_cases h0 : len = 0
    · exact .inl ⟨hsz.trans h0, some x, cap, by rw [h0]⟩
    · obtain ⟨hx, hb⟩ := spot_none (hcell 0 (by omega))
      refine .inr ⟨x.block, x.off, cap, by rw [hsz, ← hx], by rw [hsz]; exact hl, hm, hb, fun j hj => ?_⟩
      rw [hsz] at hj
      have hc := hcell j (by omega)
      have hadd : x.add j = ⟨x.block, x.off + j, none⟩ := by cases x; cases hx; simp [Addr.add]
      rw [hadd] at hc
      rw [hc]
      have hjz : j < zs.length := by omega
      have hw := hwz zs[j] (List.getElem_mem _)
      simp [Lit.wf, IntKind.min, IntKind.max, IntKind.signed, IntKind.bits] at hw
      simp only [byteAt, List.getD, List.getElem?_map, List.getElem?_take, if_pos hj, List.getElem?_eq_getElem hjz, Option.map_some, Option.getD_some]
      rw [UInt8.toNat_ofNat_of_lt' (by have : zs[j].toNat < 256 := by omega
                                       exact this), Int.toNat_of_nonneg hw.1]

/-- A slice of ints that reads as these numbers. -/
def IntsSl (w : World) (v : Value) (l : List Int) : Prop :=
  (l = [] ∧ ∃ a cap, v = .slice a 0 cap) ∨ ∃ b off cap, v = .slice (some ⟨b, off, none⟩) l.length cap ∧ l.length ≤ cap ∧ cap ≤ maxLen ∧ b < w.heap.size ∧ ∀ j, j < l.length → w.cell? ⟨b, off + j, none⟩ = some (.int .i64 (l.getD j 0))
theorem IntsSl.below {w w' : World} {v : Value} {l : List Int} (h : IntsSl w v l) (hb : Below w.heap.size w w') : IntsSl w' v l := by
  rcases h with h | ⟨b, off, cap, e, h1, h2, h3, h4⟩
  · exact .inl h
  · exact .inr ⟨b, off, cap, e, h1, h2, Nat.lt_of_lt_of_le h3 hb.size, fun j hj => (hb.cell (p := ⟨b, off + j, none⟩) h3).trans (h4 j hj)⟩
theorem IsRow.ints {w : World} {a : Option Addr} {len cap : Nat} {zs : List Int} (h : IsRow .i64 w a len cap zs) : ∃ l : List Int, l.length = len ∧ IntsSl w (.slice a len cap) l ∧ ∀ n ∈ l, (Lit.int .i64 n).wf = true := by
  rcases h with ⟨rfl, rfl, rfl, rfl⟩ | ⟨x, rfl, hl, hm, hz, hcell, hwz⟩
  · exact ⟨[], rfl, .inl ⟨rfl, none, 0, rfl⟩, fun _ h => by cases h⟩
  · have hlen : (zs.take len).length = len := by simp; omega
    refine ⟨zs.take len, hlen, ?_, fun n hn => hwz n (List.mem_of_mem_take hn)⟩
    by_cases h0 : len = 0
    · exact .inl ⟨by rw [h0]; rfl, some x, cap, by rw [h0]⟩
    · obtain ⟨hx, hb⟩ := spot_none (hcell 0 (by omega))
      refine .inr ⟨x.block, x.off, cap, by rw [hlen, ← hx], by rw [hlen]; exact hl, hm, hb, fun j hj => ?_⟩
      rw [hlen] at hj
      have hc := hcell j (by omega)
      have hadd : x.add j = ⟨x.block, x.off + j, none⟩ := by cases x; cases hx; simp [Addr.add]
      rw [hadd] at hc
      rw [hc]
      simp [List.getD, hj]
end Go.Proofs.YtkgifenidmbdkaaGreatDoor

/- utf.right, utf.Put, utf.Text. -/
namespace Go.Proofs.YtkgifenidmbdkaaGreatDoor
open Go.RowKit

theorem right_nat {n : Int} (h : rightB n = true) : ∃ c : Nat, n = c ∧ rightC c ∧ c ≤ 1114111 := by
  have hz := (rightB_iff n).1 h
  unfold rightZ at hz
  obtain ⟨c, rfl⟩ := Int.eq_ofNat_of_zero_le hz.1
  exact ⟨c, rfl, (rightC_iff c).2 h, by omega⟩

def UPutPost (n : Int) (w : World) (e : Ending) (w' : World) : Prop :=
  Below w.heap.size w w' ∧ ((rightB n = true ∧ ∃ v, e = .returned (.tuple #[v, .nilIface]) ∧ OwnB w' w.heap.size v (putL n.toNat)) ∨
    (rightB n = false ∧ ∃ v, e = .returned (.tuple #[.slice none 0 0, v]) ∧ IsFault w' v 16 0))

def TextPost (l : List Int) (w : World) (e : Ending) (w' : World) : Prop :=
  Below w.heap.size w w' ∧ ((rightLen l = l.length ∧ ∃ v, e = .returned (.tuple #[v, .nilIface]) ∧ OwnB w' w.heap.size v (putAll (nats l))) ∨
    (rightLen l < l.length ∧ ∃ v, e = .returned (.tuple #[.slice none 0 0, v]) ∧ IsFault w' v 16 (rightLen l : Int)))

end Go.Proofs.YtkgifenidmbdkaaGreatDoor

/- The reference's Next of chapter 01. -/
namespace Go.Proofs.YtkgifenidmbdkaaGreatDoor
open Go.RowKit

theorem bytes_cut (w : World) (b off i k cap : Nat) (s : ByteArray) (hi : i + k ≤ s.size) (hp : BytesIn w b off s) :
    (convert 106 9 (.slice (some ⟨b, off + i, none⟩) k cap)).run Tryz.prog w = .ok (.string (s.extract i (i + k))) w := by
  have hl : s.data.toList.length = s.size := rfl
  have h := run_convert_bytes_back (P := Tryz.prog) w 106 9 5 ⟨b, off + i, none⟩ cap ((s.data.toList.drop i).take k) Tryz.underlying106 Tryz.underlying5 Tryz.underlying9 (fun j hj => by
    have hj' : j < k := by simp [hl] at hj; omega
    have := hp (i + j) (by omega)
    rw [Addr.add_lit, Nat.add_assoc, this]
    have hlt : i + j < s.data.toList.length := by omega
    simp only [byteAt, List.getD, List.getElem_take, List.getElem_drop]
    rw [List.getElem?_eq_getElem hlt]; rfl)
  have hlen : ((s.data.toList.drop i).take k).length = k := by simp [hl]; omega
  rw [hlen] at h
  rw [h, Lib.extract_eq, Nat.add_sub_cancel_left]

def SNext (b off : Nat) (s : ByteArray) (W : World) : Prop := BytesIn W b off s

theorem SNext.put {b off : Nat} {s : ByteArray} {W w2 : World} (h : SNext b off s W) (hb : b < W.heap.size) (h2 : Below W.drew.heap.size W.drew w2) : SNext b off s w2 :=
  BytesIn.below (B := W.heap.size) (w := W) h (((Below.refl W.heap.size W).drew).trans h2) hb

set_option maxHeartbeats 3200000 in
set_option maxRecDepth 100000 in
theorem ref_Next (s : ByteArray) (i b off cap : Nat) (w : World) (hi : i < s.size) (hs : s.size ≤ 16777216) (hc : s.size ≤ cap) (hcap : cap ≤ 9223372036854775807) (hbs : b < w.heap.size) (hp : BytesIn w b off s) :
    Calls Tryz.prog 84 #[.slice (some ⟨b, off, none⟩) s.size cap, .int .i64 (i : Int)] w fun e w' => e = .returned (.tuple #[.int .i64 (refC s i : Int), .int .i64 (refN s i : Int)]) ∧ Below w.heap.size w w' := by
  go_enter Tryz.func84, Tryz.ntmps84
  go_wp2_with fail
  go_loopw [6] (fun k wr => ∃ j : Nat, 1 ≤ j ∧ j ≤ 5 ∧ k = .int .i64 j ∧ (∀ m, 1 ≤ m → m < j → i + m ≤ s.size → ¬ hitB s i m) ∧ Below w.heap.size w wr)
    (fun k _ => 6 - (intOf k).toNat)
  case atStart => exact ⟨1, by omega, by omega, rfl, fun m _ _ => by omega, Below.refl _ _⟩
  case round =>
    obtain ⟨k, hk1, hk5, rfl, hall, hbr⟩ := hrel
    have HA := Lib.hid hall
    clear hall
    by_cases hk4 : k ≤ 4 ∧ i + k ≤ s.size
    · obtain ⟨hk4, hik⟩ := hk4
      have hcx := bytes_cut wr b off i k (cap - i) s hik (hp.below hbr hbs)
      have t1 : (k : Int) ≤ 4 := by omega
      have t2 : (i : Int) + (k : Int) ≤ (s.size : Int) := by omega
      go_wp2_with fail
      refine (ref_guess s i k b off cap _ hk1 hk4 hik (by omega) (hp.below hbr hbs)).mono ?_
      rintro e w2 ⟨rfl, rfl⟩
      generalize hg : guessB s i k = g at *
      have HG := Lib.hid hg
      clear hg
      by_cases hr : rightB g = true
      · have cR : ∀ W : World, Calls Tryz.prog 123 #[.int .i64 g] W fun e w' => e = .returned (.bool true) ∧ W = w' := fun W => (ref_Right g W).mono fun _ _ ⟨a, b⟩ => ⟨by rw [a, hr], b⟩
        have CR := Lib.hid cR
        clear cR
        have hrz := (rightB_iff g).1 hr
        unfold rightZ at hrz
        obtain ⟨hz0, hz1, _⟩ := hrz
        obtain ⟨n, rfl⟩ := Int.eq_ofNat_of_zero_le hz0
        have cP : ∀ W : World, Calls Tryz.prog 124 #[.int .i64 (n : Int)] W fun e w' =>
            ∃ g, e = .returned (.slice (some ⟨g, 0, none⟩) (putL n).length (putL n).length) ∧ Below W.heap.size W w' ∧ (convert 106 9 (.slice (some ⟨g, 0, none⟩) (putL n).length (putL n).length)).run Tryz.prog w' = .ok (.string ⟨(putL n).toArray⟩) w' :=
          fun W => (ref_Put n (by omega) W).mono fun e w' ⟨h1, h2, h3, _⟩ => ⟨_, h1, h2, run_back w' _ _ 5 _ _ _ Tryz.underlying106 Tryz.underlying5 Tryz.underlying9 h3⟩
        have CP := Lib.hid cP
        clear cP
        have HC : ∀ W : World, BytesIn W b off s → (convert 106 9 (.slice (some ⟨b, off + i, none⟩) k (cap - i))).run Tryz.prog W = .ok (.string (s.extract i (i + k))) W := fun W hW => bytes_cut W b off i k (cap - i) s hik hW
        have HD := Lib.hid HC
        clear HC
        have hpr := hp.below hbr hbs
        have hbsr : b < wr.heap.size := Nat.lt_of_lt_of_le hbs hbr.size
        go_upto_region 5 with (fail)
        generalize hps : (⟨(putL n).toArray⟩ : ByteArray) = ps at *
        generalize hxs : s.extract i (i + k) = xs at *
        generalize (putL n).length = ln at *
        have HP := Lib.hid (And.intro hps hxs)
        clear hps hxs
        have z1 : IntKind.i64.wrap ((i : Int) + (k : Int)) = (i : Int) + (k : Int) := IntWalk.i64_in _ (by omega)
        have z2 : (0 : Int) ≤ (i : Int) + (k : Int) := by omega
        have z3 : ((i : Int) + (k : Int)).toNat = i + k := by omega
        have z4 : i + k - i = k := by omega
        have z5 : (0 : Int) ≤ (i : Int) := by omega
        have z6 : (i : Int) ≤ (i : Int) + (k : Int) := by omega
        have z7 : (i : Int) + (k : Int) ≤ (cap : Int) := by omega
        have z8 : ¬ cap = i := by omega
        go_cut [38] (fun c wx => c = .bool (ps.toList == xs.toList) ∧ Below wr.heap.size wr wx)
        case first =>
          have hS0 : SNext b off s wr := hpr
          have hS1 : SNext b off s wr.drew := hpr
          have hcd := HD.out wr.drew hpr
          go_region_held (SNext b off s) (first | exact hp2 | exact hS1)
            (first
            | (go_at_call 123; refine (CR.out _).mono ?_; rintro e w' ⟨rfl, rfl⟩)
            | (go_at_call 124; refine (CP.out _).mono ?_; rintro e w2 ⟨g, rfl, hb2, hB2⟩; have hp2 := hS0.put hbsr hb2; have hc2 := HD.out w2 hp2; have hbw2 := ((Below.refl wr.heap.size wr).drew).trans hb2; clear hb2; dsimp only))
          all_goals clear z1 z2 z3 z4 z5 z6 z7 z8
          all_goals (go_wp2_with fail; go_meet; exact ⟨rfl, hbw2⟩)
        case rest =>
          obtain ⟨rfl, hbx⟩ := hcut
          have hbx := Bt hbr hbx
          clear z1 z2 z3 z4 z5 z6 z7 z8 CP CR HD hcx hpr hbsr
          by_cases hh : ps = xs
          · have hl : (ps.toList == xs.toList) = true := by rw [hh]; exact beq_self_eq_true _
            have hd := hitB_dec (s := s) (i := i) hk1 hk4 hik ⟨by rw [HG.out]; exact hr, by rw [HG.out, Int.toNat_natCast, HP.out.1, HP.out.2, hh]⟩
            rw [HG.out, Int.toNat_natCast] at hd
            have HD := Lib.hid (ref_yes hd)
            clear hd hr
            rw [hl]
            clear hl hh HP HG hp hbs t1 t2 HA
            go_wp2_with fail
            go_ret2
            exact ⟨ret_next HD.out, hbx⟩
          · have hl : (ps.toList == xs.toList) = false := by
              rw [beq_eq_false_iff_ne]
              intro e
              rw [ByteArray.toList_eq, ByteArray.toList_eq] at e
              exact hh (ByteArray.ext (Array.ext' e))
            have hno : ¬ hitB s i k := fun ⟨_, e⟩ => hh (by rw [HG.out, Int.toNat_natCast, HP.out.1, HP.out.2] at e; exact e)
            have hall : ∀ m, 1 ≤ m → m < k + 1 → i + m ≤ s.size → ¬ hitB s i m := fun m h1 h2 h3 => by
              by_cases hmk : m = k
              · rw [hmk]; exact hno
              · exact HA.out m h1 (by omega) h3
            have HALL := Lib.hid hall
            clear hall hno hr hh
            rw [hl]
            clear hl
            go_wp2_with fail
            go_roundw
            case rel => exact ⟨k + 1, by omega, by omega, by go_num, HALL.out, hbx⟩
            case measure => simp [intOf]; omega
      · have hr : rightB g = false := by simpa using hr
        have cR : ∀ W : World, Calls Tryz.prog 123 #[.int .i64 g] W fun e w' => e = .returned (.bool false) ∧ W = w' := fun W => (ref_Right g W).mono fun _ _ ⟨a, b⟩ => ⟨by rw [a, hr], b⟩
        have hno : ¬ hitB s i k := fun ⟨e, _⟩ => by rw [HG.out, hr] at e; cases e
        have hall : ∀ m, 1 ≤ m → m < k + 1 → i + m ≤ s.size → ¬ hitB s i m := fun m h1 h2 h3 => by
          by_cases hmk : m = k
          · rw [hmk]; exact hno
          · exact HA.out m h1 (by omega) h3
        have HALL := Lib.hid hall
        have CR := Lib.hid cR
        clear hall hno hr cR hcx
        go_upto_region 5 with (fail)
        go_cut [38] (fun c wx => c = .bool false ∧ Below wr.heap.size wr wx)
        case first =>
          go_quiet ((go_at_call 123; exact Calls.quiet_of_same ((CR.out _).mono fun _ _ ⟨a, b⟩ => ⟨a, b.symm⟩)))
          go_wp2_with fail
          go_meet
          exact ⟨rfl, below_drewN (Below.refl _ _) _⟩
        case rest =>
          obtain ⟨rfl, hbx⟩ := hcut
          have hbx := Bt hbr hbx
          go_wp2_with fail
          go_roundw
          case rel => exact ⟨k + 1, by omega, by omega, by go_num, HALL.out, hbx⟩
          case measure => simp [intOf]; omega
    · have hno : okB s i = false := no_hit hi fun m h1 h2 h3 => HA.out m h1 (by omega) h3
      have HN := Lib.hid (ref_no hno)
      clear hno
      have hk' : 5 ≤ k ∨ (k ≤ 4 ∧ s.size < i + k) := by omega
      clear hk4
      rcases hk' with h | ⟨h, h'⟩
      all_goals
        go_wp2_with fail
        go_ret2
        exact ⟨ret_next0 HN.out, hbr⟩
end Go.Proofs.YtkgifenidmbdkaaGreatDoor
