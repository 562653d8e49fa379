/- subst's matcher: within, alike. -/
import Derived.Test.YtibhohpamnpkcaaGreatDoorRouteOrderM23
import Derived.Test.YtibhohpamnpkcaaGreatDoorRouteOrderM21

namespace Go.Proofs.YtibhohpamnpkcaaGreatDoor
open Go.RowKit

set_option maxHeartbeats 1600000 in
set_option maxRecDepth 100000 in
theorem sub_within (g c : Nat) (among : ByteArray) (fold : Bool) (w : World) (hc : c ≤ 1114111) (hf : w.cell? ⟨g, 2, none⟩ = some (.bool fold)) :
    Calls Tryz.prog 189 #[.pointer (some ⟨g, 0, none⟩), .int .i64 (c : Int), .string among] w fun e w' => e = .returned (.bool (withinB fold among c)) ∧ w = w' := by
  by_cases h : c < 128
  · have hI : (c : Int) < 128 := by omega
    have hw : IntKind.u8.wrap (c : Int) = (c : Int) := IntWalk.u8_in _ (by omega)
    have ht := turn_lt h
    have hw2 : IntKind.u8.wrap ((turnC c : Nat) : Int) = ((turnC c : Nat) : Int) := IntWalk.u8_in _ (by omega)
    have hcall := fun W => Tryz.strings_IndexByte among (c : Int) W
    rw [nat_u8] at hcall
    have hcall2 := fun W => Tryz.strings_IndexByte among ((turnC c : Nat) : Int) W
    rw [nat_u8] at hcall2
    have hix := index_has among (UInt8.ofNat c)
    have hix2 := index_has among (UInt8.ofNat (turnC c))
    have hB : withinB fold among c = (hasB among (UInt8.ofNat c) || (fold && hasB among (UInt8.ofNat (turnC c)))) := by unfold withinB; rw [decide_eq_true h, Bool.true_and]
    have HC := Lib.hid hcall
    have HC2 := Lib.hid hcall2
    have HT := Lib.hid (fun W => sub_turned c hc W)
    clear hcall hcall2 h ht
    generalize Lib.indexByte among.data.toList (UInt8.ofNat c) = ix at *
    generalize Lib.indexByte among.data.toList (UInt8.ofNat (turnC c)) = ix2 at *
    generalize hasB among (UInt8.ofNat c) = b1 at *
    generalize hasB among (UInt8.ofNat (turnC c)) = b2 at *
    generalize turnC c = tc at *
    have HB := Lib.hid hB
    clear hB
    rcases hix with ⟨rfl, h2⟩ | ⟨rfl, h2⟩
    · clear hix2
      have hB := Lib.hid (show withinB fold among c = true by rw [HB.out]; simp)
      go_enter Tryz.func189, Tryz.ntmps189
      go_wp2_with fail
      refine (HC.out _).mono ?_
      rintro e w2 ⟨rfl, rfl⟩
      go_wp2_with fail
      go_ret
      exact ⟨ret_bool (by rw [hB.out]; try first | done | rfl | (simp; done) | (simp; omega)), rfl⟩
    · cases fold with
      | false =>
        clear hix2
        have hB := Lib.hid (show withinB false among c = false by rw [HB.out]; simp)
        go_enter Tryz.func189, Tryz.ntmps189
        go_wp2_with fail
        refine (HC.out _).mono ?_
        rintro e w2 ⟨rfl, rfl⟩
        go_wp2_with fail
        go_ret
        exact ⟨ret_bool (by rw [hB.out]; try first | done | rfl | (simp; done) | (simp; omega)), rfl⟩
      | true =>
        rcases hix2 with ⟨rfl, h3⟩ | ⟨rfl, h3⟩
        · have hB := Lib.hid (show withinB true among c = true by rw [HB.out]; simp)
          go_enter Tryz.func189, Tryz.ntmps189
          go_wp2_with fail
          refine (HC.out _).mono ?_
          rintro e w2 ⟨rfl, rfl⟩
          go_wp2_with fail
          refine (HT.out _).mono ?_
          rintro e w3 ⟨rfl, rfl⟩
          go_wp2_with fail
          refine (HC2.out _).mono ?_
          rintro e w4 ⟨rfl, rfl⟩
          go_wp2_with fail
          go_ret
          exact ⟨ret_bool (by rw [hB.out]; try first | done | rfl | (simp; done) | (simp; omega)), rfl⟩
        · have hB := Lib.hid (show withinB true among c = false by rw [HB.out]; simp)
          go_enter Tryz.func189, Tryz.ntmps189
          go_wp2_with fail
          refine (HC.out _).mono ?_
          rintro e w2 ⟨rfl, rfl⟩
          go_wp2_with fail
          refine (HT.out _).mono ?_
          rintro e w3 ⟨rfl, rfl⟩
          go_wp2_with fail
          refine (HC2.out _).mono ?_
          rintro e w4 ⟨rfl, rfl⟩
          go_wp2_with fail
          go_ret
          exact ⟨ret_bool (by rw [hB.out]; try first | done | rfl | (simp; done) | (simp; omega)), rfl⟩
  · have hI : ¬ (c : Int) < 128 := by omega
    have hB := Lib.hid (show withinB fold among c = false by unfold withinB; rw [decide_eq_false h]; rfl)
    clear h
    go_enter Tryz.func189, Tryz.ntmps189
    go_wp2_with fail
    go_ret
    exact ⟨ret_bool (by rw [hB.out]; try first | done | rfl | (simp; done) | (simp; omega)), rfl⟩
set_option maxHeartbeats 1600000 in
set_option maxRecDepth 100000 in
theorem sub_alike (g p c : Nat) (fold : Bool) (w : World) (hp : p ≤ 1114111) (hf : w.cell? ⟨g, 2, none⟩ = some (.bool fold)) :
    Calls Tryz.prog 207 #[.pointer (some ⟨g, 0, none⟩), .int .i64 (p : Int), .int .i64 (c : Int)] w fun e w' => e = .returned (.bool (alikeB fold p c)) ∧ w = w' := by
  have HT := Lib.hid (fun W => sub_turned p hp W)
  have hB : alikeB fold p c = (decide (p = 63) || (decide (p = c) || (fold && decide (turnC p = c)))) := rfl
  have HB := Lib.hid hB
  have e1 : ((p : Int) == 63) = decide (p = 63) := by rw [Bool.eq_iff_iff]; simp; omega
  have e2 : ((p : Int) == (c : Int)) = decide (p = c) := by rw [Bool.eq_iff_iff]; simp; omega
  have e3 : (((turnC p : Nat) : Int) == (c : Int)) = decide (turnC p = c) := by rw [Bool.eq_iff_iff]; simp; omega
  clear hB
  generalize turnC p = tp at *
  generalize decide (p = 63) = b1 at *
  generalize decide (p = c) = b2 at *
  generalize decide (tp = c) = b3 at *
  cases b1 with
  | true =>
    have hB := Lib.hid (show alikeB fold p c = true by rw [HB.out]; simp)
    clear e2 e3
    go_enter Tryz.func207, Tryz.ntmps207
    go_wp2_with fail
    go_ret
    exact ⟨ret_bool (by rw [hB.out]; try first | done | rfl | (simp; done) | (simp; omega)), rfl⟩
  | false =>
    cases b2 with
    | true =>
      have hB := Lib.hid (show alikeB fold p c = true by rw [HB.out]; simp)
      clear e3
      go_enter Tryz.func207, Tryz.ntmps207
      go_wp2_with fail
      go_ret
      exact ⟨ret_bool (by rw [hB.out]; try first | done | rfl | (simp; done) | (simp; omega)), rfl⟩
    | false =>
      cases fold with
      | false =>
        have hB := Lib.hid (show alikeB false p c = false by rw [HB.out]; simp)
        clear e3
        go_enter Tryz.func207, Tryz.ntmps207
        go_wp2_with fail
        go_ret
        exact ⟨ret_bool (by rw [hB.out]; try first | done | rfl | (simp; done) | (simp; omega)), rfl⟩
      | true =>
        have hB := Lib.hid (show alikeB true p c = b3 by rw [HB.out]; simp)
        go_enter Tryz.func207, Tryz.ntmps207
        go_wp2_with fail
        refine (HT.out _).mono ?_
        rintro e w3 ⟨rfl, rfl⟩
        go_wp2_with fail
        go_ret
        exact ⟨ret_bool (by rw [hB.out]; try first | done | rfl | (simp; done) | (simp; omega)), rfl⟩
end Go.Proofs.YtibhohpamnpkcaaGreatDoor

/- glob.skip. -/
namespace Go.Proofs.YtibhohpamnpkcaaGreatDoor
open Go.RowKit

def boolsF (f : Nat → Bool) : Nat → Value := fun i => .bool (f i)
theorem rowIs_far {w w' : World} {b n : Nat} {t : TypeId} {f : Nat → Value} {row : Option Nat} (h : w.rowIs b t n f) (hg : w.grownBy w' row) (hr : some b ≠ row) : w'.rowIs b t n f :=
  h.of_block (hg.block b h.lt hr)
theorem only_alloc {a w : World} {row : Option Nat} (h : a.grownBy w row) (o : Obj) : a.grownBy (w.alloc o) row :=
  ⟨h.os, h.tape, h.output, Nat.le_trans h.size (by simp), fun i hi hne => (Below.heap_alloc w o i (Nat.lt_of_lt_of_le hi h.size)).trans (h.block i hi hne)⟩
theorem only_setCell {a w : World} {g : Nat} (h : a.grownBy w (some g)) {p : Addr} (hp : p.block = g ∨ a.heap.size ≤ p.block) (u : Value) : a.grownBy (w.setCell p u) (some g) :=
  ⟨h.os, h.tape, h.output, by simpa [World.setCell] using h.size, fun i hi hne => (Below.heap_setCell w p u i (by
    rintro rfl
    rcases hp with hp | hp
    · exact hne (by rw [hp])
    · omega)).trans (h.block i hi hne)⟩

theorem skip_row {w : World} {g n i : Nat} {t : TypeId} {ps : List GPart} {f0 : Nat → Bool} {v : Bool} (h : w.rowIs g t n (fun j => if j = i + 1 then .bool v else boolsF (fun m => if m ≤ i then skipF ps f0 m else f0 m) j)) (hv : skipF ps f0 (i + 1) = v) :
    w.rowIs g t n (boolsF fun m => if m ≤ i + 1 then skipF ps f0 m else f0 m) := by
  refine h.congr fun j _ => ?_
  by_cases hj : j = i + 1
  · subst hj
    rw [if_pos rfl]
    show _ = Value.bool (if i + 1 ≤ i + 1 then _ else _)
    rw [if_pos (Nat.le_refl _), hv]
  · rw [if_neg hj]
    show Value.bool (if j ≤ i then _ else _) = Value.bool (if j ≤ i + 1 then _ else _)
    by_cases h2 : j ≤ i
    · rw [if_pos h2, if_pos (by omega)]
    · rw [if_neg h2, if_neg (by omega)]

set_option maxHeartbeats 3200000 in
theorem glob_skip (a : Option Addr) (n cap : Nat) (ps : List GPart) (g c2 : Nat) (f0 : Nat → Bool) (w : World) (hn : ps.length = n) (hn2 : n ≤ 16777216) (hsl : PartsSl w a ps) (hrow : w.rowIs g 4 (n + 1) (boolsF f0)) :
    Calls Tryz.prog 182 #[.slice a n cap, .slice (some ⟨g, 0, none⟩) (n + 1) c2] w fun e w' => e = .returned (.tuple #[]) ∧ w'.rowIs g 4 (n + 1) (boolsF (skipF ps f0)) ∧ w.grownBy w' (some g) := by
  have hne := hsl.ne hrow
  have hgw := hrow.lt
  have HNE := Lib.hid hne
  have HN := Lib.hid hn
  clear hne hn
  go_enter Tryz.func182, Tryz.ntmps182
  go_wp2_with fail
  go_loopw [8] (fun x wr => ∃ i : Nat, i ≤ n ∧ x = .int .i64 i ∧ wr.rowIs g 4 (n + 1) (boolsF fun m => if m ≤ i then skipF ps f0 m else f0 m) ∧ w.grownBy wr (some g)) (fun x _ => n - (intOf x).toNat)
  case atStart => exact ⟨0, Nat.zero_le _, rfl, hrow.congr (fun i _ => by
    unfold boolsF
    by_cases h : i ≤ 0
    · obtain rfl : i = 0 := by omega
      rfl
    · show Value.bool (f0 i) = Value.bool (if i ≤ 0 then _ else _)
      rw [if_neg h]), grown_refl _ _⟩
  case round =>
    obtain ⟨i, hil, rfl, hr, hg⟩ := hrel
    by_cases hlt : i < n
    · obtain ⟨p, hp⟩ : ∃ p, ps[i]? = some p := ⟨_, List.getElem?_eq_getElem (by rw [HN.out]; exact hlt)⟩
      obtain ⟨b, rfl, hbw, h1, h2, h3⟩ := (hsl.grown hg HNE.out) i p hp
      have hbg : b ≠ g := HNE.out b rfl (fun e => by rw [e] at hp; simp at hp)
      have hma := manyAt_of hp
      have hsk := skipF_succ ps f0 i
      have c0 := hr.cell (i := i) (by omega)
      have c1 := hr.cell (i := i + 1) (by omega)
      have hset := fun o u => (hr.set (i + 1) u).alloc o
      have hfz := hr.frozen (i + 1)
      have e0 : boolsF (fun m => if m ≤ i then skipF ps f0 m else f0 m) i = .bool (skipF ps f0 i) := by unfold boolsF; simp
      have e1 : boolsF (fun m => if m ≤ i then skipF ps f0 m else f0 m) (i + 1) = .bool (f0 (i + 1)) := by
        show Value.bool (if i + 1 ≤ i then _ else _) = _
        rw [if_neg (by omega)]
      rw [e0] at c0
      rw [e1] at c1
      rw [← hma] at h3
      generalize skipF ps f0 i = y at *
      generalize f0 (i + 1) = x at *
      generalize manyAt ps i = m at *
      have HSET := Lib.hid hset
      have HSK := Lib.hid hsk
      have HP := Lib.hid hp
      clear hset hsk hp e0 e1 hma HN hrow
      have hgr := fun o u => only_alloc (only_setCell hg (p := ⟨g, i + 1, none⟩) (.inl rfl) u) o
      have hglt := hr.lt
      have HGR := Lib.hid hgr
      clear hgr hr hg
      cases x <;> cases y <;> cases m
      all_goals
        go_wp2_with fail
        go_roundw
        case rel => exact ⟨i + 1, by omega, by go_num, skip_row (HSET.out _ _) HSK.out, HGR.out _ _⟩
        case measure => simp [intOf]; omega
    · obtain rfl : i = n := by omega
      go_wp2_with fail
      go_end0
      exact ⟨rfl, hr.congr (fun j hj => by
        show Value.bool (if j ≤ i then _ else _) = _
        rw [if_pos (by omega)]; rfl), hg⟩
end Go.Proofs.YtibhohpamnpkcaaGreatDoor

/- glob.part.stands; the reference's same. -/
namespace Go.Proofs.YtibhohpamnpkcaaGreatDoor
open Go.RowKit

theorem stands_two (ch c : Nat) (m f : Bool) : standsB ⟨ch, false, m⟩ c f = (decide (ch = c) || (f && decide (smallC ch = smallC c))) := rfl

set_option maxHeartbeats 800000 in
theorem glob_stands (ch c : Nat) (wild many f : Bool) (hch : ch ≤ 1114111) (hc : c ≤ 1114111) (w : World) :
    Calls Tryz.prog 183 #[.agg #[.int .i64 (ch : Int), .bool wild, .bool many], .int .i64 (c : Int), .bool f] w fun e w' => e = .returned (.bool (standsB ⟨ch, wild, many⟩ c f)) ∧ Below w.heap.size w w' := by
  cases wild with
  | true =>
    have hv := Lib.hid (stands_wild ch many f c)
    go_enter Tryz.func183, Tryz.ntmps183
    go_wp2_with fail
    go_ret
    exact ⟨rfl, (Below.refl _ _).alloc (Nat.le_refl _) _⟩
  | false =>
    by_cases hcc : ch = c
    · have hv := Lib.hid (show standsB ⟨ch, false, many⟩ c f = true by rw [stands_two, decide_eq_true hcc]; rfl)
      have e1 : ((ch : Int) == (c : Int)) = true := by rw [beq_iff_eq]; omega
      clear hcc
      go_enter Tryz.func183, Tryz.ntmps183
      go_wp2_with fail
      go_ret
      exact ⟨ret_bool hv.out.symm, (Below.refl _ _).alloc (Nat.le_refl _) _⟩
    · have e1 : ((ch : Int) == (c : Int)) = false := by rw [beq_eq_false_iff_ne]; omega
      cases f with
      | false =>
        have hv := Lib.hid (show standsB ⟨ch, false, many⟩ c false = false by rw [stands_two, decide_eq_false hcc]; rfl)
        clear hcc
        go_enter Tryz.func183, Tryz.ntmps183
        go_wp2_with fail
        go_ret
        exact ⟨ret_bool hv.out.symm, (Below.refl _ _).alloc (Nat.le_refl _) _⟩
      | true =>
        have hv := Lib.hid (show standsB ⟨ch, false, many⟩ c true = decide (smallC ch = smallC c) by rw [stands_two, decide_eq_false hcc]; simp)
        clear hcc
        have HC := Lib.hid (fun (x : Nat) (hx : x ≤ 1114111) W => glob_small x hx W)
        generalize hx : smallC ch = x at *
        generalize hy : smallC c = y at *
        have HX := Lib.hid hx
        have HY := Lib.hid hy
        clear hx hy
        go_enter Tryz.func183, Tryz.ntmps183
        go_wp2_with fail
        refine (HC.out ch hch _).mono ?_
        rintro e w1 ⟨rfl, rfl⟩
        rw [HX.out]
        go_wp2_with fail
        refine (HC.out c hc _).mono ?_
        rintro e w1 ⟨rfl, rfl⟩
        rw [HY.out]
        by_cases hxy : x = y
        · have e3 : ((x : Int) == (y : Int)) = true := by rw [beq_iff_eq]; omega
          have hd := Lib.hid (show decide (x = y) = true from decide_eq_true hxy)
          clear hxy
          go_wp2_with fail
          go_ret
          exact ⟨ret_bool (by rw [hv.out, hd.out]), (Below.refl _ _).alloc (Nat.le_refl _) _⟩
        · have e3 : ((x : Int) == (y : Int)) = false := by rw [beq_eq_false_iff_ne]; omega
          have hd := Lib.hid (show decide (x = y) = false from decide_eq_false hxy)
          clear hxy
          go_wp2_with fail
          go_ret
          exact ⟨ret_bool (by rw [hv.out, hd.out]), (Below.refl _ _).alloc (Nat.le_refl _) _⟩

theorem small_byte (a b : Nat) (ha : a ≤ 127) (hb : b ≤ 127) : (((smallN a : Nat) : Int) == ((smallN b : Nat) : Int)) = (decide (a = b) || decide (smallC a = smallC b)) := by
  rw [Bool.eq_iff_iff, Bool.or_eq_true, decide_eq_true_iff, decide_eq_true_iff, beq_iff_eq, Int.ofNat_inj]
  exact ⟨fun h => .inr h, fun h => h.elim (fun e => by rw [e]) fun h => h⟩
theorem small_great (a b : Nat) (h : 127 < a ∨ 127 < b) : decide (a = b) = (decide (a = b) || decide (smallC a = smallC b)) := by
  rw [Bool.eq_iff_iff]
  unfold smallC
  simp only [Bool.or_eq_true, decide_eq_true_eq]
  split <;> split <;> omega
theorem nat_eqB (a b : Nat) : ((a : Int) == (b : Int)) = decide (a = b) := by
  rw [Bool.eq_iff_iff, beq_iff_eq, decide_eq_true_iff]; omega
theorem wrap_u8 (a : Nat) (h : a ≤ 127) : IntKind.u8.wrap (a : Int) = (a : Int) := by
  unfold IntKind.wrap; simp [IntKind.signed, IntKind.bits]; omega

/-- Are two characters the same, but, if so asked, for great and small letters? -/
def sameC (a b : Nat) (f : Bool) : Bool := decide (a = b) || (f && decide (smallC a = smallC b))
end Go.Proofs.YtibhohpamnpkcaaGreatDoor

/- glob.run: are characters in the language of parts? -/
namespace Go.Proofs.YtibhohpamnpkcaaGreatDoor
open Go.RowKit

theorem info_bool : (Tryz.prog.info? 4).map (fun i => (i.zero, i.size, i.bytes)) = some (some (.bool false), 1, 1) := by kernel_rfl
theorem make_bools (n : Nat) (hn : n ≤ 16777216) (W : World) : (Instr.makeSlice 226 (.int .i64 ((n : Int) + 1)) (.int .i64 ((n : Int) + 1))).run Tryz.prog W = .ok (.slice (some ⟨W.heap.size, 0, none⟩) (n + 1) (n + 1)) (W.alloc (.cells (madeCells #[.bool false] (n + 1)) 4)) := by
  obtain ⟨i, hi, hz, hsize, hby⟩ := info_parts info_bool
  exact run_make_row 226 4 i (.bool false) Tryz.underlying226 hi hz hsize rfl .i64 .i64 (n + 1) (by rw [hby]; omega) (by omega) W

theorem take_one' {cs : List Nat} {k c : Nat} (h : cs[k]? = some c) : cs.take k ++ [c] = cs.take (k + 1) := by
  obtain ⟨hi, rfl⟩ := List.getElem?_eq_some_iff.1 h
  rw [List.take_succ_eq_append_getElem hi]
theorem Bg {a w w' : World} {g : Nat} (h : a.grownBy w (some g)) (hb : Below w.heap.size w w') : a.grownBy w' (some g) := grown_trans h (below_grownBy hb _)
theorem row_below {w w' : World} {b n : Nat} {t : TypeId} {f : Nat → Value} (h : w.rowIs b t n f) (hb : Below w.heap.size w w') : w'.rowIs b t n f := h.of_block (hb.block b h.lt)
theorem set_many {w : World} {g n i : Nat} {t : TypeId} {f : Bool} {ps : List GPart} {u : List Nat} {c j : Nat} (h : w.rowIs g t n (fun m => if m = j then .bool true else boolsF (stepTo f ps u c i) m)) (e : ∀ m, stepTo f ps u c (i + 1) m = if m = j then true else stepTo f ps u c i m) :
    w.rowIs g t n (boolsF (stepTo f ps u c (i + 1))) := by
  refine h.congr fun m _ => ?_
  show _ = Value.bool _
  rw [e m]
  split <;> rfl

theorem row_start (w : World) (n : Nat) : (w.alloc (.cells ((madeCells #[.bool false] (n + 1)).setIfInBounds 0 (.bool true)) 4)).rowIs w.heap.size 4 (n + 1) (boolsF startF) := by
  have hs : ((madeCells #[Value.bool false] (n + 1)).setIfInBounds 0 (.bool true)).size = n + 1 := by simp [size_madeCells]
  have h := World.rowIs_alloc w ((madeCells #[.bool false] (n + 1)).setIfInBounds 0 (.bool true)) 4 (boolsF startF) (fun i hi => by
    rw [hs] at hi
    rw [Array.getElem?_setIfInBounds]
    unfold boolsF startF
    by_cases h0 : 0 = i
    · subst h0; simp [size_madeCells]
    · rw [if_neg h0, decide_eq_false (fun e => h0 e.symm)]
      simp [madeCells, hi, Nat.mod_one])
  rw [hs] at h
  exact h

set_option maxHeartbeats 6400000 in
set_option maxRecDepth 100000 in
theorem glob_run (a b : Option Addr) (n cap m cap2 : Nat) (ps : List GPart) (cs : List Nat) (f : Bool) (w : World) (hn : ps.length = n) (hm : cs.length = m) (hn2 : n ≤ 16777216) (hm2 : m ≤ 16777216) (hsl : PartsSl w a ps) (hcl : CharsSl w b cs)
    (hps : ∀ p ∈ ps, p.char ≤ 1114111) (hcs : ∀ c ∈ cs, c ≤ 1114111) :
    Calls Tryz.prog 155 #[.slice a n cap, .slice b m cap2, .bool f] w fun e w' => e = .returned (.bool (langB f ps cs)) ∧ Below w.heap.size w w' := by
  have hmk := make_bools n hn2
  have HMK := Lib.hid hmk
  have HN := Lib.hid hn
  have HM := Lib.hid hm
  have HPS := Lib.hid hps
  have HCS := Lib.hid hcs
  clear hn hm hps hcs
  go_enter Tryz.func155, Tryz.ntmps155
  have hfz0 := (World.rowIs_made w (.bool false) (n + 1) 4).frozen 0
  have hc0 := (World.rowIs_made w (.bool false) (n + 1) 4).cell (i := 0) (by omega)
  have hrow0 := row_start w n
  have HB0 := Lib.hid ((Below.refl w.heap.size w).alloc (Nat.le_refl _) (.cells ((madeCells #[.bool false] (n + 1)).setIfInBounds 0 (.bool true)) 4))
  have hsl0 := hsl.below HB0.out
  go_wp2_with fail
  refine (glob_skip a n cap ps w.heap.size (n + 1) startF _ HN.out hn2 hsl0 hrow0).mono ?_
  rintro e w2 ⟨rfl, hr2, hg2⟩
  have hb2 : Below w.heap.size w w2 := HB0.out.grown hg2 HB0.out.size (fun j hj => by cases hj; exact Nat.le_refl _)
  have hr2' : w2.rowIs w.heap.size 4 (n + 1) (boolsF (rB f ps [])) := hr2.congr fun j hj => by
    show Value.bool _ = Value.bool _
    rw [skip_start f ps j (by rw [HN.out]; omega)]
  clear hr2 hg2 hsl0 HB0 hrow0 hc0 hfz0
  go_wp2_with fail
  go_loopw [7, 24] (fun v x wr => ∃ k g : Nat, k ≤ m ∧ x = .int .i64 k ∧ v = .slice (some ⟨g, 0, none⟩) (n + 1) (n + 1) ∧ wr.rowIs g 4 (n + 1) (boolsF (rB f ps (cs.take k))) ∧ w.heap.size ≤ g ∧ Below w.heap.size w wr) (fun _ x _ => m - (intOf x).toNat)
  case atStart => exact ⟨0, w.heap.size, Nat.zero_le _, rfl, rfl, hr2', Nat.le_refl _, hb2⟩
  case round =>
    obtain ⟨k, g, hkm, rfl, rfl, hr, hgw, hbr⟩ := hrel
    clear hr2' hb2
    by_cases hlt : k < m
    · obtain ⟨d, hd⟩ : ∃ d, cs[k]? = some d := ⟨_, List.getElem?_eq_getElem (by rw [HM.out]; exact hlt)⟩
      have hdm : d ≤ 1114111 := HCS.out d (List.mem_of_getElem? hd)
      obtain ⟨bb, rfl, hbw, hcell⟩ := (hcl.below hbr) k d hd
      have htk := take_one' hd
      generalize cs.take k = u at *
      have HTK := Lib.hid htk
      clear htk hd
      have hrn := World.rowIs_made wr (.bool false) (n + 1) 4
      have hra := hr.alloc (.cells (madeCells #[.bool false] (n + 1)) 4)
      have hbr2 := hbr.alloc hbr.size (.cells (madeCells #[.bool false] (n + 1)) 4)
      have hgl := hr.lt
      go_wp2_with fail
      generalize hw3 : wr.alloc (.cells (madeCells #[.bool false] (n + 1)) 4) = w3 at *
      generalize hgn : wr.heap.size = gn at *
      have hgg : g ≠ gn := by omega
      have hsz3 : gn < w3.heap.size := hrn.lt
      clear hw3 hgn hcell hr hbr hmk
      go_loopw [33] (fun x wi => ∃ i : Nat, i ≤ n ∧ x = .int .i64 i ∧ wi.rowIs gn 4 (n + 1) (boolsF (stepTo f ps u d i)) ∧ w3.grownBy wi (some gn)) (fun x _ => n - (intOf x).toNat)
      case atStart => exact ⟨0, Nat.zero_le _, rfl, hrn.congr fun j _ => by
        show _ = Value.bool _
        rw [stepTo_zero], grown_refl _ _⟩
      case round =>
        obtain ⟨i, hin, rfl, hri, hgi⟩ := hrel
        have hgi2 := hgi.size
        by_cases hlti : i < n
        · obtain ⟨p, hp⟩ : ∃ p, ps[i]? = some p := ⟨_, List.getElem?_eq_getElem (by rw [HN.out]; exact hlti)⟩
          have hpm := HPS.out p (List.mem_of_getElem? hp)
          obtain ⟨b0, rfl, hb0, h1, h2, h3⟩ := ((hsl.below hbr2).grown hgi ((hsl.below hbr2).ne (f := fun _ => false) hrn)) i p hp
          have hrg := rowIs_far hra hgi (by simp; exact hgg)
          have cg := hrg.cell (i := i) (by omega)
          have hglt := hrg.lt
          have hgnlt := hri.lt
          have e0 : boolsF (rB f ps u) i = .bool (rB f ps u i) := rfl
          rw [e0] at cg
          have hno := fun h => step_none (f := f) (u := u) (c := d) hp h
          have hmany := fun h1 h2 h3 => step_many (f := f) (u := u) (c := d) hp h1 h2 h3
          have hone := fun h1 h2 h3 => step_one (f := f) (u := u) (c := d) hp h1 h2 h3
          obtain ⟨ch, wild, many⟩ := p
          have HNO := Lib.hid hno
          have HMANY := Lib.hid hmany
          have HONE := Lib.hid hone
          simp only at h1 h2 h3 hpm
          clear hno hmany hone hp e0
          by_cases hy : rB f ps u i = true
          · have HY := Lib.hid hy
            rw [hy] at cg
            clear hy
            go_wp2_with fail
            refine (glob_stands ch d wild many f hpm hdm _).mono ?_
            rintro e w5 ⟨rfl, hb5⟩
            have hr5 := row_below (hri.alloc (.cells #[.int .i64 (ch : Int), .bool wild, .bool many] 291)) hb5
            have hg5 := Bg (only_alloc hgi (.cells #[.int .i64 (ch : Int), .bool wild, .bool many] 291)) hb5
            have hq : w5.cell? ⟨wr.heap.size, 2, none⟩ = some (.bool many) := (hb5.cell (p := ⟨wr.heap.size, 2, none⟩) (by simp)).trans (by simp)
            have hfz := fun j => hr5.frozen j
            have hset := fun j => hr5.set j (.bool true)
            have hgs := fun j => only_setCell hg5 (p := ⟨gn, j, none⟩) (.inl rfl) (.bool true)
            have hci := hr5.cell (i := i) (by omega)
            have hcj := hr5.cell (i := i + 1) (by omega)
            have hf1 := hfz i
            have hf2 := hfz (i + 1)
            have HSET := Lib.hid hset
            have HGS := Lib.hid hgs
            clear hset hgs hb5 hfz
            by_cases hst : standsB ⟨ch, wild, many⟩ d f = true
            · rw [hst]
              have HST := Lib.hid hst
              clear hst
              cases many with
              | true =>
                clear hr5 hg5
                go_wp2_with fail
                go_roundw
                case rel => exact ⟨i + 1, by omega, by go_num, set_many (HSET.out i) (HMANY.out HY.out HST.out (by first | trivial | rfl)), HGS.out i⟩
                case measure => simp [intOf]; omega
              | false =>
                clear hr5 hg5
                go_wp2_with fail
                go_roundw
                case rel => exact ⟨i + 1, by omega, by go_num, set_many (HSET.out (i + 1)) (HONE.out HY.out HST.out (by first | trivial | rfl)), HGS.out (i + 1)⟩
                case measure => simp [intOf]; omega
            · have hst : standsB ⟨ch, wild, many⟩ d f = false := by simpa using hst
              rw [hst]
              have HST := Lib.hid hst
              clear hst hci hcj
              go_wp2_with fail
              go_roundw
              case rel => exact ⟨i + 1, by omega, by go_num, hr5.congr fun j _ => by
                show Value.bool _ = Value.bool _
                rw [HNO.out (.inr HST.out)], hg5⟩
              case measure => simp [intOf]; omega
          · have hy : rB f ps u i = false := by simpa using hy
            have HY := Lib.hid hy
            rw [hy] at cg
            clear hy
            have hal := hri.alloc (.cells #[.int .i64 (ch : Int), .bool wild, .bool many] 291)
            have hga := only_alloc hgi (.cells #[.int .i64 (ch : Int), .bool wild, .bool many] 291)
            go_wp2_with fail
            go_roundw
            case rel => exact ⟨i + 1, by omega, by go_num, hal.congr fun j _ => by
              show Value.bool _ = Value.bool _
              rw [HNO.out (.inl HY.out)], hga⟩
            case measure => simp [intOf]; omega
        · obtain rfl : i = n := by omega
          have hfin : ∀ j, j ≤ i → skipF ps (stepTo f ps u d i) j = rB f ps (u ++ [d]) j := fun j hj => by
            have h1 := skip_step f ps u d j (by rw [HN.out]; exact hj)
            rw [HN.out] at h1
            exact h1
          have HFIN := Lib.hid hfin
          have hsli := (hsl.below hbr2).grown hgi ((hsl.below hbr2).ne (f := fun _ => false) hrn)
          have hbi : Below w.heap.size w wr := hbr2.grown hgi hbr2.size (fun j hj => by cases hj; omega)
          clear hfin
          go_wp2_with fail
          refine (glob_skip a i cap ps gn (i + 1) _ _ HN.out hn2 hsli hri).mono ?_
          rintro e w6 ⟨rfl, hr6, hg6⟩
          have hb6 : Below w.heap.size w w6 := hbi.grown hg6 hbi.size (fun j hj => by cases hj; omega)
          have hr7 : w6.rowIs gn 4 (i + 1) (boolsF (rB f ps (cs.take (k + 1)))) := hr6.congr fun j hj => by
            show Value.bool _ = Value.bool _
            rw [HFIN.out j (by omega), HTK.out]
          clear hr6 hg6 hbi hri hgi hra hrn hbr2
          go_wp2_with fail
          go_roundw
          case rel => exact ⟨k + 1, gn, by omega, by go_num, rfl, hr7, by omega, hb6⟩
          case measure => simp [intOf]; omega
    · obtain rfl : k = m := by omega
      have hc := hr.cell (i := n) (by omega)
      have hv : boolsF (rB f ps (cs.take k)) n = .bool (langB f ps cs) := by
        show Value.bool _ = _
        rw [← HM.out, List.take_length, ← HN.out, rB_all]
      rw [hv] at hc
      clear hv hmk
      go_wp2_with fail
      go_ret
      exact ⟨rfl, hbr⟩
end Go.Proofs.YtibhohpamnpkcaaGreatDoor

/- subst's matcher: advance: one character's step. -/
namespace Go.Proofs.YtibhohpamnpkcaaGreatDoor
open Go.RowKit

theorem cell_grown {w w' : World} {g : Nat} (h : w.grownBy w' (some g)) {p : Addr} (hp : p.block < w.heap.size) (hne : p.block ≠ g) : w'.cell? p = w.cell? p :=
  World.cell?_of_block (h.block p.block hp (fun e => hne (by injection e)))
theorem pset_many {w : World} {g n i : Nat} {t : TypeId} {f : Bool} {ps : List GPart} {cs : List Nat} {fr : Nat → Bool} {k c j : Nat} (h : w.rowIs g t n (fun m => if m = j then .bool true else boolsF (nP f ps cs fr k c i) m)) (e : ∀ m, nP f ps cs fr k c (i + 1) m = if m = j then true else nP f ps cs fr k c i m) :
    w.rowIs g t n (boolsF (nP f ps cs fr k c (i + 1))) := h.congr fun m _ => by
  show _ = Value.bool _
  rw [e]
  by_cases hm : m = j
  · rw [if_pos hm, if_pos hm]
  · rw [if_neg hm, if_neg hm]; rfl
set_option maxHeartbeats 6400000 in
set_option maxRecDepth 100000 in
theorem sub_advance (g : Nat) (a : Option Addr) (n cap gr c2 c k : Nat) (xs cs : List Nat) (fr : Nat → Bool) (fold : Bool) (w : World) (hn : xs.length = n) (hn2 : n ≤ 16777216) (hg : g < w.heap.size) (hf : w.cell? ⟨g, 2, none⟩ = some (.bool fold)) (hcl : CharsSl w a xs)
    (hrow : w.rowIs gr 4 (n + 1) (boolsF (nS fold (xs.map partOf) cs fr k))) (hxs : ∀ x ∈ xs, x ≤ 1114111) :
    Calls Tryz.prog 184 #[.pointer (some ⟨g, 0, none⟩), .slice a n cap, .slice (some ⟨gr, 0, none⟩) (n + 1) c2, .int .i64 (c : Int)] w fun e w' => ∃ gn, e = .returned (.slice (some ⟨gn, 0, none⟩) (n + 1) (n + 1)) ∧ w'.rowIs gn 4 (n + 1) (boolsF (nP fold (xs.map partOf) cs fr k c n)) ∧ w.heap.size ≤ gn ∧ Below w.heap.size w w' := by
  have hmk := make_bools n hn2
  have HN := Lib.hid hn
  have HX := Lib.hid hxs
  have hgr := hrow.lt
  have hgc := hcl.ne (f := nS fold (xs.map partOf) cs fr k) hrow
  have hrn := World.rowIs_made w (.bool false) (n + 1) 4
  have hra := hrow.alloc (.cells (madeCells #[.bool false] (n + 1)) 4)
  have hst : Below w.heap.size w (w.alloc (.cells (madeCells #[.bool false] (n + 1)) 4)) := (Below.refl _ _).alloc (Nat.le_refl _) _
  have hcl2 := hcl.below hst
  have hf2 := (hst.cell (p := ⟨g, 2, none⟩) hg).trans hf
  clear hn hxs hgc
  go_enter Tryz.func184, Tryz.ntmps184
  go_wp2_with fail
  generalize hw3 : w.alloc (.cells (madeCells #[.bool false] (n + 1)) 4) = w3 at *
  have hb3 : Below w.heap.size w w3 := hst
  generalize hgn : w.heap.size = gn at *
  have hgg : gr ≠ gn := by omega
  have hgg2 : g ≠ gn := by omega
  have hsz3 : gn < w3.heap.size := hrn.lt
  have hne3 := hcl2.ne (f := fun _ => false) hrn
  clear hw3 hst hmk hf hcl hrow
  go_loopw [17] (fun x wi => ∃ i : Nat, i ≤ n ∧ x = .int .i64 i ∧ wi.rowIs gn 4 (n + 1) (boolsF (nP fold (xs.map partOf) cs fr k c i)) ∧ w3.grownBy wi (some gn)) (fun x _ => n - (intOf x).toNat)
  case atStart => exact ⟨0, Nat.zero_le _, rfl, hrn.congr fun j _ => by
    show _ = Value.bool _
    rw [nP_zero], grown_refl _ _⟩
  case round =>
    obtain ⟨i, hin, rfl, hri, hgi⟩ := hrel
    have hgi2 := hgi.size
    by_cases hlti : i < n
    · obtain ⟨x, hx⟩ : ∃ x, xs[i]? = some x := ⟨_, List.getElem?_eq_getElem (by rw [HN.out]; exact hlti)⟩
      have hxm := HX.out x (List.mem_of_getElem? hx)
      have hp : (xs.map partOf)[i]? = some (partOf x) := by rw [List.getElem?_map, hx]; rfl
      obtain ⟨b0, rfl, hb0, h1⟩ := (hcl2.grown hgi hne3) i x hx
      have hrg := rowIs_far hra hgi (by simp; exact hgg)
      have hfi := (cell_grown hgi (p := ⟨g, 2, none⟩) (by show g < _; omega) hgg2).trans hf2
      have cg := hrg.cell (i := i) (by omega)
      have hglt := hrg.lt
      have hgnlt := hri.lt
      have e0 : boolsF (nS fold (xs.map partOf) cs fr k) i = .bool (nS fold (xs.map partOf) cs fr k i) := rfl
      rw [e0] at cg
      have hno := fun h => nP_none (f := fold) (cs := cs) (fr := fr) (i := k) (c := c) hp h
      have hmany := fun h1 h2 h3 => nP_many (f := fold) (cs := cs) (fr := fr) (i := k) (c := c) hp h1 h2 h3
      have hone := fun h1 h2 h3 => nP_one (f := fold) (cs := cs) (fr := fr) (i := k) (c := c) hp h1 h2 h3
      have HNO := Lib.hid hno
      have HMANY := Lib.hid hmany
      have HONE := Lib.hid hone
      have hset := fun j => hri.set j (.bool true)
      have hgs := fun j => only_setCell hgi (p := ⟨gn, j, none⟩) (.inl rfl) (.bool true)
      have hci := hri.cell (i := i) (by omega)
      have hcj := hri.cell (i := i + 1) (by omega)
      have hfz1 := hri.frozen i
      have hfz2 := hri.frozen (i + 1)
      have HSET := Lib.hid hset
      have HGS := Lib.hid hgs
      have HRI := Lib.hid hri
      have HGI := Lib.hid hgi
      clear hno hmany hone hp e0 hset hgs hx hrg hri hgi
      by_cases hy : nS fold (xs.map partOf) cs fr k i = true
      · have HY := Lib.hid hy
        rw [hy] at cg
        clear hy
        by_cases h42 : x = 42
        · subst h42
          go_wp2_with fail
          go_roundw
          case rel => exact ⟨i + 1, by omega, by go_num, pset_many (HSET.out i) (HMANY.out HY.out rfl rfl), HGS.out i⟩
          case measure => simp [intOf]; omega
        · have e42 : ((x : Int) == 42) = false := by rw [beq_eq_false_iff_ne]; omega
          have hal := Lib.hid (alike_stands c fold h42)
          have hmn := Lib.hid (show (partOf x).many = false by rw [many_star, decide_eq_false h42])
          clear h42
          go_wp2_with fail
          refine (sub_alike g x c fold _ hxm hfi).mono ?_
          rintro e w5 ⟨rfl, rfl⟩
          cases hst : alikeB fold x c
          · have HST := Lib.hid (hal.out.trans hst)
            clear hst
            go_wp2_with fail
            go_roundw
            case rel => exact ⟨i + 1, by omega, by go_num, HRI.out.congr fun j _ => by
              show Value.bool _ = Value.bool _
              rw [HNO.out (.inr HST.out)], HGI.out⟩
            case measure => simp [intOf]; omega
          · have HST := Lib.hid (hal.out.trans hst)
            clear hst
            go_wp2_with fail
            go_roundw
            case rel => exact ⟨i + 1, by omega, by go_num, pset_many (HSET.out (i + 1)) (HONE.out HY.out HST.out hmn.out), HGS.out (i + 1)⟩
            case measure => simp [intOf]; omega
      · have hy : nS fold (xs.map partOf) cs fr k i = false := by simpa using hy
        have HY := Lib.hid hy
        rw [hy] at cg
        clear hy
        go_wp2_with fail
        go_roundw
        case rel => exact ⟨i + 1, by omega, by go_num, HRI.out.congr fun j _ => by
          show Value.bool _ = Value.bool _
          rw [HNO.out (.inl HY.out)], HGI.out⟩
        case measure => simp [intOf]; omega
    · obtain rfl : i = n := by omega
      go_wp2_with fail
      go_ret
      exact ⟨gn, rfl, hri, by omega, by rw [hgn]; exact hb3.grown hgi (by omega) (fun j hj => by cases hj; omega)⟩
end Go.Proofs.YtibhohpamnpkcaaGreatDoor

/- glob.plain: the parts of a pattern. -/
namespace Go.Proofs.YtibhohpamnpkcaaGreatDoor
open Go.RowKit

theorem patP_len (p : ByteArray) : (patP p).length ≤ p.size := by unfold patP; rw [List.length_map]; exact chrs_len p
theorem okP_none {p : ByteArray} (h : okP p = true) : (chrs p).2 = none ∧ p.size ≤ 1024 := by
  unfold okP at h
  rw [Bool.and_eq_true, decide_eq_true_iff, Option.isNone_iff_eq_none] at h
  exact ⟨h.2, h.1⟩
def PlainPost (p : ByteArray) (w : World) (e : Ending) (w' : World) : Prop :=
  Below w.heap.size w w' ∧ ((okP p = true ∧ ∃ v, e = .returned (.tuple #[v, .nilIface]) ∧ OwnP w' w.heap.size v (patP p)) ∨ (okP p = false ∧ ∃ u, e = .returned (.tuple #[.slice none 0 0, .iface 89 u])))

theorem map_take_one {cs : List Nat} {i c : Nat} (h : cs[i]? = some c) : (cs.take i).map partOf ++ [partOf c] = (cs.take (i + 1)).map partOf := by
  obtain ⟨hi, rfl⟩ := List.getElem?_eq_some_iff.1 h
  rw [List.take_succ_eq_append_getElem hi, List.map_append]; rfl

set_option maxHeartbeats 1600000 in
set_option maxRecDepth 100000 in
theorem glob_plain (p : ByteArray) (w : World) (hU : Utf8Laid w) (hp : p.size ≤ 16777216) : Calls Tryz.prog 154 #[.string p] w (PlainPost p w) := by
  go_enter Tryz.func154, Tryz.ntmps154
  go_wp2_with fail
  refine (glob_Check p _ hU hp).mono ?_
  rintro e w1 ⟨hb1, h⟩
  rcases h with ⟨hok, _, rfl⟩ | ⟨hok, _, v, rfl, hv⟩
  · have HOK := Lib.hid hok
    have HN := Lib.hid (okP_none hok).1
    clear hok
    have hU1 := hU.below hb1
    go_wp2_with ((with_reducible refine wpList_bytes_sl rfl 9 74 5 _ rfl p rfl Tryz.underlying9 Tryz.underlying74 Tryz.underlying5 (by omega) ?_); intro v1 w2 hv1 hb2)
    have hb12 := Bt hb1 hb2
    have hU2 := hU1.below hb2
    refine (utf_Chars v1 p _ hU2 hp hv1).mono ?_
    rintro e w3 ⟨hb3, h⟩
    have hb13 := Bt hb12 hb3
    rcases h with ⟨_, v3, rfl, hown⟩ | ⟨i, hi, _⟩
    · obtain ⟨a, c, rfl, hc1, hc2, hsl⟩ := chars_sl hown rfl
      have hlen := chrs_len p
      have hpat : patP p = (chrs p).1.map partOf := rfl
      have hpl := patP_len p
      rw [hpat] at hpl
      generalize (chrs p).1 = cs at *
      have HPAT := Lib.hid hpat
      unfold maxLen at hc2
      clear hown hb1 hb2 hb3 hb12 hU1 hU2 hpat
      go_wp2_with fail
      go_loopw [7, 23] (fun v x wr => ∃ i : Nat, i ≤ cs.length ∧ x = .int .i64 i ∧ OwnP wr w3.heap.size v ((cs.take i).map partOf) ∧ Below w3.heap.size w3 wr) (fun _ x _ => cs.length - (intOf x).toNat)
      case atStart => exact ⟨0, Nat.zero_le _, rfl, OwnP.nil _ _, Below.refl _ _⟩
      case round =>
        obtain ⟨i, hil, rfl, hown, hbr⟩ := hrel
        by_cases hlt : i < cs.length
        · obtain ⟨d, hd⟩ : ∃ d, cs[i]? = some d := ⟨_, List.getElem?_eq_getElem hlt⟩
          obtain ⟨b, rfl, hbw, hcell⟩ := (hsl.below hbr) i d hd
          have hmt := map_take_one hd
          have hdl : ((cs.take i).map partOf).length ≤ 16777216 := by rw [List.length_map]; have := List.length_take_le i cs; omega
          have hbs := (Bt hb13 hbr).size
          generalize (cs.take i).map partOf = done at *
          have hws := hbr.size
          by_cases h42 : d = 42
          · subst h42
            have HMT := Lib.hid hmt
            clear hmt hd
            have ho2 := hown.below ((Below.refl wr.heap.size wr).alloc (Nat.le_refl _) (.cells #[.int .i64 0, .bool true, .bool true] 291))
            have hbr2 := hbr.alloc hbr.size (.cells #[.int .i64 0, .bool true, .bool true] 291)
            go_wp2_with (at_builtin; refine wpList_app_part rfl (.tmp 35) (.tmp 37) rfl w3.heap.size _ _ rfl ho2 wr.heap.size 1 ⟨0, true, true⟩ rfl (heap_alloc_new wr _) (by omega) (by simp; omega) ?_)
            intro v4 w4 hown4 hg4
            have hbr4 := ho2.under hbr2 (Nat.le_refl _) hg4
            clear ho2 hbr2 hown hbr hg4
            go_wp2_with fail
            go_roundw
            case rel => exact ⟨i + 1, by omega, by go_num, by rw [← HMT.out]; exact hown4, hbr4⟩
            case measure => simp [intOf]; omega
          · have e1 : ((d : Int) == 42) = false := by rw [beq_eq_false_iff_ne]; omega
            by_cases h63 : d = 63
            · subst h63
              have HMT := Lib.hid hmt
              clear hmt hd h42
              have ho2 := hown.below ((Below.refl wr.heap.size wr).alloc (Nat.le_refl _) (.cells #[.int .i64 0, .bool true, .bool false] 291))
              have hbr2 := hbr.alloc hbr.size (.cells #[.int .i64 0, .bool true, .bool false] 291)
              go_wp2_with (at_builtin; refine wpList_app_part rfl (.tmp 41) (.tmp 43) rfl w3.heap.size _ _ rfl ho2 wr.heap.size 1 ⟨0, true, false⟩ rfl (heap_alloc_new wr _) (by omega) (by simp; omega) ?_)
              intro v4 w4 hown4 hg4
              have hbr4 := ho2.under hbr2 (Nat.le_refl _) hg4
              clear ho2 hbr2 hown hbr hg4
              go_wp2_with fail
              go_roundw
              case rel => exact ⟨i + 1, by omega, by go_num, by rw [← HMT.out]; exact hown4, hbr4⟩
              case measure => simp [intOf]; omega
            · have e2 : ((d : Int) == 63) = false := by rw [beq_eq_false_iff_ne]; omega
              rw [partOf_char h42 h63] at hmt
              have HMT := Lib.hid hmt
              clear hmt hd h42 h63
              have ho2 := hown.below ((Below.refl wr.heap.size wr).alloc (Nat.le_refl _) (.cells #[.int .i64 (d : Int), .bool false, .bool false] 291))
              have hbr2 := hbr.alloc hbr.size (.cells #[.int .i64 (d : Int), .bool false, .bool false] 291)
              go_wp2_with (at_builtin; refine wpList_app_part rfl (.tmp 28) (.tmp 31) rfl w3.heap.size _ _ rfl ho2 wr.heap.size 1 ⟨d, false, false⟩ rfl (heap_alloc_new wr _) (by omega) (by simp; omega) ?_)
              intro v4 w4 hown4 hg4
              have hbr4 := ho2.under hbr2 (Nat.le_refl _) hg4
              clear ho2 hbr2 hown hbr hg4
              go_wp2_with fail
              go_roundw
              case rel => exact ⟨i + 1, by omega, by go_num, by rw [← HMT.out]; exact hown4, hbr4⟩
              case measure => simp [intOf]; omega
        · obtain rfl : i = cs.length := by omega
          rw [List.take_length, ← HPAT.out] at hown
          have hb4 := Bt hb13 hbr
          have hown5 := ownsRow_base hown hb13.size
          clear hown
          go_wp2_with fail
          go_ret2
          exact ⟨hb4, .inl ⟨HOK.out, _, rfl, hown5⟩⟩
    · rw [HN.out] at hi; cases hi
  · obtain ⟨u, rfl⟩ := hv.ne_nil
    have HOK := Lib.hid hok
    clear hok
    go_wp2_with fail
    go_ret2
    exact ⟨hb1, .inr ⟨HOK.out, u, rfl⟩⟩
end Go.Proofs.YtibhohpamnpkcaaGreatDoor
