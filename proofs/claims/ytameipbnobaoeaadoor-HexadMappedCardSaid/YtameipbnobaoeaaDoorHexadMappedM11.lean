/- hexad.Groups, hexad.Of. -/
import Derived.Test.YtameipbnobaoeaaDoorHexadMappedM10
import Derived.BigRegion
import Derived.Test.YtameipbnobaoeaaDoorHexadMappedM3
import Derived.Laws.OwnMore
import Derived.Deep.OwnRows
import Derived.Maps.AppendAt
import Derived.Test.YtameipbnobaoeaaDoorHexadMappedM7
import Derived.Lib.SlicesS
import Derived.Test.YtameipbnobaoeaaDoorShelf
import Derived.Test.YtameipbnobaoeaaDoorHexadMappedM2
import Derived.Test.YtameipbnobaoeaaDoorHexadMappedM4
import Derived.Laws.BytesArg

namespace Go.Proofs.YtameipbnobaoeaaDoor
open Go.RowKit

theorem or_byte16 (m d : Nat) (hm : m < 256) (hd : d < 256) : bits .or .u16 ((m : Int) * 256) (d : Int) = ((m * 256 + d : Nat) : Int) := by
  have h : ∀ k : Fin 256, ∀ d : Fin 256, ((k.1 * 256) ||| d.1) = k.1 * 256 + d.1 := by
    intro k d
    have e := Nat.two_pow_add_eq_or_of_lt (i := 8) d.2 k.1
    rw [show k.1 * 256 = 2 ^ 8 * k.1 by omega]
    exact e.symm
  show IntKind.u16.wrap ((BitVec.ofInt 16 ((m : Int) * 256) ||| BitVec.ofInt 16 (d : Int)).toNat : Int) = _
  have e1 : (m : Int) * 256 = ((m * 256 : Nat) : Int) := by omega
  rw [e1, BitVec.ofInt_natCast, BitVec.ofInt_natCast, BitVec.toNat_or, BitVec.toNat_ofNat, BitVec.toNat_ofNat, Nat.mod_eq_of_lt (by omega), Nat.mod_eq_of_lt (by omega), h ⟨m, hm⟩ ⟨d, hd⟩]
  simp only [IntKind.wrap, IntKind.signed, IntKind.bits]
  simp
  omega
theorem below_setRow8 {B : Nat} {a w : World} (h : Below B a w) {g : Nat} (hg : B ≤ g) (cs : Array Value) : Below B a (w.setRow g cs) :=
  ⟨h.os, h.tape, h.output, by simpa using h.size, fun k hk => (setRow_other w g k cs (by omega)).trans (h.block k hk)⟩
set_option maxHeartbeats 3200000 in
set_option maxRecDepth 100000 in
theorem hexad_Groups (b : List Nat) (w : World) (hl : b.length = 16) (hb : ∀ x ∈ b, x < 256) :
    Calls Tryd.prog 9 #[.agg (b.map u8V).toArray] w fun e w' => e = .returned (.agg ((grps b).map u16V).toArray) ∧ Below w.heap.size w w' := by
  have hA0 : ArrAt (w.alloc (.cells (b.map u8V).toArray 23)) w.heap.size 23 (b.map u8V) := heap_alloc_new w _
  have hA := hA0.row (n := 16) (f := fun j => u8V (b.getD j 0)) (by rw [List.length_map, hl]) (fun i hi => by rw [List.getElem?_map, List.getD, List.getElem?_eq_getElem (by omega)]; rfl)
  have hst1 : Below w.heap.size w (w.alloc (.cells (b.map u8V).toArray 23)) := (Below.refl _ _).alloc (Nat.le_refl _) _
  have hG0 : ArrAt ((w.alloc (.cells (b.map u8V).toArray 23)).alloc (.cells #[.int .u16 0, .int .u16 0, .int .u16 0, .int .u16 0, .int .u16 0, .int .u16 0, .int .u16 0, .int .u16 0] 26)) (w.heap.size + 1) 26 (List.replicate 8 (.int .u16 0)) := by
    have := heap_alloc_new (w.alloc (.cells (b.map u8V).toArray 23)) (.cells #[.int .u16 0, .int .u16 0, .int .u16 0, .int .u16 0, .int .u16 0, .int .u16 0, .int .u16 0, .int .u16 0] 26)
    rw [World.size_alloc] at this
    exact this
  have hG := hG0.row (n := 8) (f := fun j => u16V (if j < 0 then grpB b j else 0)) rfl (fun i hi => by rw [if_neg (by omega), List.getElem?_replicate, if_pos hi]; rfl)
  have hA' := hA.alloc (.cells #[.int .u16 0, .int .u16 0, .int .u16 0, .int .u16 0, .int .u16 0, .int .u16 0, .int .u16 0, .int .u16 0] 26)
  have hst2 := hst1.alloc (by simp) (.cells #[.int .u16 0, .int .u16 0, .int .u16 0, .int .u16 0, .int .u16 0, .int .u16 0, .int .u16 0, .int .u16 0] 26)
  have HB := Lib.hid hb
  clear hA0 hA hst1 hG0 hb
  go_enter Tryd.func9, Tryd.ntmps9
  go_wp2_with fail
  go_loopw [4] (fun x wr => ∃ i : Nat, i ≤ 8 ∧ x = .int .i64 i ∧ wr.rowIs w.heap.size 23 16 (fun j => u8V (b.getD j 0)) ∧ wr.rowIs (w.heap.size + 1) 26 8 (fun j => u16V (if j < i then grpB b j else 0)) ∧ Below w.heap.size w wr) (fun x _ => 8 - (intOf x).toNat)
  case atStart => exact ⟨0, Nat.zero_le _, rfl, hA', hG, hst2⟩
  case round =>
    obtain ⟨i, hil, rfl, hAr, hGr, hbr⟩ := hrel
    by_cases hlt : i < 8
    · have hiI : (i : Int) < 8 := by omega
      have l1 := getD_lt HB.out (by omega) (2 * i)
      have l2 := getD_lt HB.out (by omega) (2 * i + 1)
      have c1 := hAr.cell (i := 2 * i) (by omega)
      have c2 := hAr.cell (i := 2 * i + 1) (by omega)
      have c3 := hGr.cell hlt
      have f3 := hGr.frozen i
      have z1 : IntKind.i64.wrap (2 * (i : Int)) = 2 * (i : Int) := IntWalk.i64_in _ (by omega)
      have z2 : IntKind.i64.wrap (2 * (i : Int) + 1) = 2 * (i : Int) + 1 := IntWalk.i64_in _ (by omega)
      have z3 : (0 : Int) ≤ 2 * (i : Int) := by omega
      have z4 : (0 : Int) ≤ 2 * (i : Int) + 1 := by omega
      have z5 : 2 * (i : Int) < 16 := by omega
      have z6 : 2 * (i : Int) + 1 < 16 := by omega
      have z7 : (2 * (i : Int)).toNat = 2 * i := by omega
      have z8 : (2 * (i : Int) + 1).toNat = 2 * i + 1 := by omega
      have hg : grpB b i = b.getD (2 * i) 0 * 256 + b.getD (2 * i + 1) 0 := rfl
      simp only [u8V] at c1 c2
      generalize b.getD (2 * i) 0 = m at *
      generalize b.getD (2 * i + 1) 0 = d at *
      have hor := or_byte16 m d l1 l2
      have hset := hGr.set i (u16V (m * 256 + d))
      have hAs := hAr.setOther (a := ⟨w.heap.size + 1, i, none⟩) (by show w.heap.size ≠ w.heap.size + 1; omega) (u16V (m * 256 + d))
      have hbs := hbr.setCell (show w.heap.size ≤ (⟨w.heap.size + 1, i, none⟩ : Addr).block by show _ ≤ w.heap.size + 1; omega) (u16V (m * 256 + d))
      have ev : u16V (m * 256 + d) = .int .u16 ((m : Int) * 256 + (d : Int)) := by unfold u16V; congr 1
      have hcong := hset.congr (g := fun j => u16V (if j < i + 1 then grpB b j else 0)) (fun j hj => by
        by_cases e : j = i
        · subst e; rw [if_pos rfl, if_pos (by omega), hg]
        · rw [if_neg e]
          by_cases h2 : j < i
          · rw [if_pos h2, if_pos (by omega)]
          · rw [if_neg h2, if_neg (by omega)])
      rw [ev] at hcong hAs hbs
      have HC := Lib.hid hcong
      have HA := Lib.hid hAs
      have HBS := Lib.hid hbs
      unfold u16V at c3
      clear hset hAs hbs hcong hGr hAr hg hA' hG
      go_wp2_with fail
      go_region
      go_wp2_with fail
      go_roundw
      case rel => exact ⟨i + 1, by omega, by go_num, HA.out, HC.out, HBS.out.drew⟩
      case measure => simp [intOf]; omega
    · obtain rfl : i = 8 := by omega
      have hR := ArrAt.ofRow hGr
      have hlist : ((List.range 8).map fun j => u16V (if j < 8 then grpB b j else 0)) = (grps b).map u16V := by
        unfold grps
        rw [List.map_map]
        exact List.map_congr_left fun j hj => by
          rw [if_pos (List.mem_range.1 hj)]; rfl
      rw [hlist] at hR
      have hlen : ((grps b).map u16V).length = 8 := by rw [List.length_map, grps_len]
      have L := hR.load8 hlen
      have hall : (((grps b).map u16V).toArray).all (·.oneCell') = true := by
        rw [List.all_toArray, List.all_eq_true]
        intro x hx
        obtain ⟨n, _, rfl⟩ := List.mem_map.1 hx
        rfl
      have hset := setRow_heap wr (w.heap.size + 1) ((grps b).map u16V).toArray ((grps b).map u16V).toArray 26 (0, 0) hR
      have hbs := below_setRow8 hbr (show w.heap.size ≤ w.heap.size + 1 by omega) ((grps b).map u16V).toArray
      clear hA' hG hGr hAr hlist hst2
      generalize hGe : (grps b).map u16V = G at *
      have HGE := Lib.hid hGe
      clear hGe
      obtain ⟨x0, x1, x2, x3, x4, x5, x6, x7, rfl⟩ := eightM hlen
      have c0 := hR.cell (i := 0) rfl
      have c1 := hR.cell (i := 1) rfl
      have c2 := hR.cell (i := 2) rfl
      have c3 := hR.cell (i := 3) rfl
      have c4 := hR.cell (i := 4) rfl
      have c5 := hR.cell (i := 5) rfl
      have c6 := hR.cell (i := 6) rfl
      have c7 := hR.cell (i := 7) rfl
      go_wp2_with (refine wpList_store_row (o := ⟨none, _, _, _, _, _⟩) rfl _ _ _ rfl (w.heap.size + 1) #[x0, x1, x2, x3, x4, x5, x6, x7] rfl rfl _ _ hR (by rw [size_g8]; simp [hlen]) rfl hall ?_)
      (try simp only [Exit.inBlock, Exit.then])
      refine bodyPost_ret (results_g8 (g := w.heap.size + 1) rfl rfl hset hlen) rfl ?_
      exact ⟨by rw [HGE.out], hbs⟩
set_option maxHeartbeats 3200000 in
set_option maxRecDepth 100000 in
theorem hexad_Of (g : List Nat) (w : World) (hl : g.length = 8) (hg : ∀ x ∈ g, x < 65536) :
    Calls Tryd.prog 10 #[.agg (g.map u16V).toArray] w fun e w' => e = .returned (.agg ((bytesG g).map u8V).toArray) ∧ Below w.heap.size w w' := by
  obtain ⟨x0, x1, x2, x3, x4, x5, x6, x7, rfl⟩ := eightM hl
  have l0 := hg x0 (by simp)
  have l1 := hg x1 (by simp)
  have l2 := hg x2 (by simp)
  have l3 := hg x3 (by simp)
  have l4 := hg x4 (by simp)
  have l5 := hg x5 (by simp)
  have l6 := hg x6 (by simp)
  have l7 := hg x7 (by simp)
  simp only [List.map_cons, List.map_nil, u16V]
  clear hl hg
  have ix0 : ∀ W, (Instr.index 26 (.agg #[.int .u16 (x0 : Int), .int .u16 (x1 : Int), .int .u16 (x2 : Int), .int .u16 (x3 : Int), .int .u16 (x4 : Int), .int .u16 (x5 : Int), .int .u16 (x6 : Int), .int .u16 (x7 : Int)]) (.int .i64 0)).run Tryd.prog W = .ok (.int .u16 (x0 : Int)) W := fun _ => by kernel_rfl
  have ix1 : ∀ W, (Instr.index 26 (.agg #[.int .u16 (x0 : Int), .int .u16 (x1 : Int), .int .u16 (x2 : Int), .int .u16 (x3 : Int), .int .u16 (x4 : Int), .int .u16 (x5 : Int), .int .u16 (x6 : Int), .int .u16 (x7 : Int)]) (.int .i64 1)).run Tryd.prog W = .ok (.int .u16 (x1 : Int)) W := fun _ => by kernel_rfl
  have ix2 : ∀ W, (Instr.index 26 (.agg #[.int .u16 (x0 : Int), .int .u16 (x1 : Int), .int .u16 (x2 : Int), .int .u16 (x3 : Int), .int .u16 (x4 : Int), .int .u16 (x5 : Int), .int .u16 (x6 : Int), .int .u16 (x7 : Int)]) (.int .i64 2)).run Tryd.prog W = .ok (.int .u16 (x2 : Int)) W := fun _ => by kernel_rfl
  have ix3 : ∀ W, (Instr.index 26 (.agg #[.int .u16 (x0 : Int), .int .u16 (x1 : Int), .int .u16 (x2 : Int), .int .u16 (x3 : Int), .int .u16 (x4 : Int), .int .u16 (x5 : Int), .int .u16 (x6 : Int), .int .u16 (x7 : Int)]) (.int .i64 3)).run Tryd.prog W = .ok (.int .u16 (x3 : Int)) W := fun _ => by kernel_rfl
  have ix4 : ∀ W, (Instr.index 26 (.agg #[.int .u16 (x0 : Int), .int .u16 (x1 : Int), .int .u16 (x2 : Int), .int .u16 (x3 : Int), .int .u16 (x4 : Int), .int .u16 (x5 : Int), .int .u16 (x6 : Int), .int .u16 (x7 : Int)]) (.int .i64 4)).run Tryd.prog W = .ok (.int .u16 (x4 : Int)) W := fun _ => by kernel_rfl
  have ix5 : ∀ W, (Instr.index 26 (.agg #[.int .u16 (x0 : Int), .int .u16 (x1 : Int), .int .u16 (x2 : Int), .int .u16 (x3 : Int), .int .u16 (x4 : Int), .int .u16 (x5 : Int), .int .u16 (x6 : Int), .int .u16 (x7 : Int)]) (.int .i64 5)).run Tryd.prog W = .ok (.int .u16 (x5 : Int)) W := fun _ => by kernel_rfl
  have ix6 : ∀ W, (Instr.index 26 (.agg #[.int .u16 (x0 : Int), .int .u16 (x1 : Int), .int .u16 (x2 : Int), .int .u16 (x3 : Int), .int .u16 (x4 : Int), .int .u16 (x5 : Int), .int .u16 (x6 : Int), .int .u16 (x7 : Int)]) (.int .i64 6)).run Tryd.prog W = .ok (.int .u16 (x6 : Int)) W := fun _ => by kernel_rfl
  have ix7 : ∀ W, (Instr.index 26 (.agg #[.int .u16 (x0 : Int), .int .u16 (x1 : Int), .int .u16 (x2 : Int), .int .u16 (x3 : Int), .int .u16 (x4 : Int), .int .u16 (x5 : Int), .int .u16 (x6 : Int), .int .u16 (x7 : Int)]) (.int .i64 7)).run Tryd.prog W = .ok (.int .u16 (x7 : Int)) W := fun _ => by kernel_rfl
  go_enter Tryd.func10, Tryd.ntmps10
  go_wp2_with fail
  refine wp_loop_rounds 9 ?_
  rw [rounds_succ]
  go_wp2_with fail
  rw [rounds_succ]
  go_wp2_with fail
  rw [rounds_succ]
  go_wp2_with fail
  rw [rounds_succ]
  go_wp2_with fail
  rw [rounds_succ]
  go_wp2_with fail
  rw [rounds_succ]
  go_wp2_with fail
  rw [rounds_succ]
  go_wp2_with fail
  rw [rounds_succ]
  go_wp2_with fail
  rw [rounds_succ]
  go_wp2_with fail
  have hbl : (bytesG [x0, x1, x2, x3, x4, x5, x6, x7]).map u8V = [.int .u8 ((x0 : Int) / 256), .int .u8 ((x0 : Int) % 256), .int .u8 ((x1 : Int) / 256), .int .u8 ((x1 : Int) % 256), .int .u8 ((x2 : Int) / 256), .int .u8 ((x2 : Int) % 256), .int .u8 ((x3 : Int) / 256), .int .u8 ((x3 : Int) % 256), .int .u8 ((x4 : Int) / 256), .int .u8 ((x4 : Int) % 256), .int .u8 ((x5 : Int) / 256), .int .u8 ((x5 : Int) % 256), .int .u8 ((x6 : Int) / 256), .int .u8 ((x6 : Int) % 256), .int .u8 ((x7 : Int) / 256), .int .u8 ((x7 : Int) % 256)] := by
    simp [bytesG, byteG, u8V, List.range, List.range.loop]
  have hR : ArrAt ((w.alloc (.cells #[.int .u16 (x0 : Int), .int .u16 (x1 : Int), .int .u16 (x2 : Int), .int .u16 (x3 : Int), .int .u16 (x4 : Int), .int .u16 (x5 : Int), .int .u16 (x6 : Int), .int .u16 (x7 : Int)] 26)).alloc (.cells [.int .u8 ((x0 : Int) / 256), .int .u8 ((x0 : Int) % 256), .int .u8 ((x1 : Int) / 256), .int .u8 ((x1 : Int) % 256), .int .u8 ((x2 : Int) / 256), .int .u8 ((x2 : Int) % 256), .int .u8 ((x3 : Int) / 256), .int .u8 ((x3 : Int) % 256), .int .u8 ((x4 : Int) / 256), .int .u8 ((x4 : Int) % 256), .int .u8 ((x5 : Int) / 256), .int .u8 ((x5 : Int) % 256), .int .u8 ((x6 : Int) / 256), .int .u8 ((x6 : Int) % 256), .int .u8 ((x7 : Int) / 256), .int .u8 ((x7 : Int) % 256)].toArray 23)) (w.heap.size + 1) 23 [.int .u8 ((x0 : Int) / 256), .int .u8 ((x0 : Int) % 256), .int .u8 ((x1 : Int) / 256), .int .u8 ((x1 : Int) % 256), .int .u8 ((x2 : Int) / 256), .int .u8 ((x2 : Int) % 256), .int .u8 ((x3 : Int) / 256), .int .u8 ((x3 : Int) % 256), .int .u8 ((x4 : Int) / 256), .int .u8 ((x4 : Int) % 256), .int .u8 ((x5 : Int) / 256), .int .u8 ((x5 : Int) % 256), .int .u8 ((x6 : Int) / 256), .int .u8 ((x6 : Int) % 256), .int .u8 ((x7 : Int) / 256), .int .u8 ((x7 : Int) % 256)] := by
    have := heap_alloc_new (w.alloc (.cells #[.int .u16 (x0 : Int), .int .u16 (x1 : Int), .int .u16 (x2 : Int), .int .u16 (x3 : Int), .int .u16 (x4 : Int), .int .u16 (x5 : Int), .int .u16 (x6 : Int), .int .u16 (x7 : Int)] 26)) (.cells [.int .u8 ((x0 : Int) / 256), .int .u8 ((x0 : Int) % 256), .int .u8 ((x1 : Int) / 256), .int .u8 ((x1 : Int) % 256), .int .u8 ((x2 : Int) / 256), .int .u8 ((x2 : Int) % 256), .int .u8 ((x3 : Int) / 256), .int .u8 ((x3 : Int) % 256), .int .u8 ((x4 : Int) / 256), .int .u8 ((x4 : Int) % 256), .int .u8 ((x5 : Int) / 256), .int .u8 ((x5 : Int) % 256), .int .u8 ((x6 : Int) / 256), .int .u8 ((x6 : Int) % 256), .int .u8 ((x7 : Int) / 256), .int .u8 ((x7 : Int) % 256)].toArray 23)
    rw [World.size_alloc] at this
    exact this
  refine bodyPost_ret (results_v6 (g := w.heap.size + 1) (t := 23) (l := [.int .u8 ((x0 : Int) / 256), .int .u8 ((x0 : Int) % 256), .int .u8 ((x1 : Int) / 256), .int .u8 ((x1 : Int) % 256), .int .u8 ((x2 : Int) / 256), .int .u8 ((x2 : Int) % 256), .int .u8 ((x3 : Int) / 256), .int .u8 ((x3 : Int) % 256), .int .u8 ((x4 : Int) / 256), .int .u8 ((x4 : Int) % 256), .int .u8 ((x5 : Int) / 256), .int .u8 ((x5 : Int) % 256), .int .u8 ((x6 : Int) / 256), .int .u8 ((x6 : Int) % 256), .int .u8 ((x7 : Int) / 256), .int .u8 ((x7 : Int) % 256)]) rfl rfl hR rfl) rfl ?_
  exact ⟨by rw [hbl], ((Below.refl _ _).alloc (Nat.le_refl _) _).alloc (by simp) _⟩
end Go.Proofs.YtameipbnobaoeaaDoor

/- Rows of strings of a call's own; two rows of strings held against each other; is a string among them. -/
namespace Go.Proofs.YtameipbnobaoeaaDoor
open Go.RowKit

theorem info_strS : (Tryd.prog.info? 9).map (fun i => (i.zero, i.size, i.bytes)) = some (some (.string ByteArray.empty), 1, 16) := by kernel_rfl
def OwnS (w : World) (base : Nat) (v : Value) (l : List ByteArray) : Prop := w.ownsRow base 9 1 v l.length (l.map strV)
theorem OwnS.below {w w' : World} {base : Nat} {v : Value} {l : List ByteArray} (h : OwnS w base v l) (hb : Below w.heap.size w w') : OwnS w' base v l := ownsRow_below h hb
theorem OwnS.drewN {w : World} {base : Nat} {v : Value} {l : List ByteArray} (h : OwnS w base v l) (m : Nat) : OwnS (w.drewN m) base v l := h
theorem OwnS.nil (w : World) (base : Nat) : OwnS w base (.slice none 0 0) [] := World.ownsRow_nil _ _ _ _
theorem OwnS.lit0 (w : World) (base : Nat) (hb : base ≤ w.heap.size) : OwnS (w.alloc (.cells #[] 9)) base (.slice (some ⟨w.heap.size, 0, none⟩) 0 0) [] :=
  World.ownsRow_lit w #[] 0 hb (Nat.zero_le _) rfl
theorem OwnS.under {w0 w w' : World} {base : Nat} {v : Value} {l : List ByteArray} (h : OwnS w base v l) (hb : Below w0.heap.size w0 w) (hB : w0.heap.size ≤ base) (hg : w.grownBy w' v.ownBlock) : Below w0.heap.size w0 w' :=
  hb.grown hg hb.size (fun j hj => Nat.le_trans hB (World.ownsRow.lt h j hj).1)
theorem OwnS.sl {w : World} {base : Nat} {v : Value} {l : List ByteArray} (h : OwnS w base v l) : ∃ a c, v = .slice a l.length c ∧ l.length ≤ c ∧ c ≤ maxLen ∧ RowSl w a (l.map strV) := by
  have := row_sl h (by simp)
  simpa using this
theorem wpList_app_str {w : World} {ops : Array Oper} {rest : List Oper} {o : Oper} {a : Act} {Q : Exit → Act → World → Prop} (hgd : o.guard = none) (s x : Operand) (ho : o.op = .call { callee := .builtin .append, args := #[s, x], argTypes := #[56, 56] })
    (base : Nat) (v : Value) (l : List ByteArray) (hs : a.eval s = v) (hown : OwnS w base v l) (g c : Nat) (p : ByteArray) (hx : a.eval x = .slice (some ⟨g, 0, none⟩) 1 c) (hb : w.heap[g]? = some (.cells #[.string p] 9 (0, 0)))
    (hl : l.length ≤ 1073741824) (hbase : base ≤ w.heap.size)
    (h : ∀ v' w', OwnS w' base v' (l ++ [p]) → w.grownBy w' v.ownBlock → wpList Tryd.prog ops Q rest (a.put o.dst v') w') : wpList Tryd.prog ops Q (o :: rest) a w := by
  obtain ⟨i, hi, hz, hsize, hby⟩ := info_parts info_strS
  refine wpList_append_own _ hgd s x 56 ho base 9 i _ 1 16 Tryd.underlying56 hi hz hsize hby rfl (by decide) v _ _ hs hown _ 1 c [strV p] hx rfl ?_ ?_ (by unfold maxLen; omega) (by omega) hbase ?_
  · intro j u hj
    match j, hj with
    | 0, hj =>
      simp at hj; subst hj
      rw [Addr.add_lit, Nat.zero_add, cell_of_row w g 0 _ _ _ hb]
      rfl
  · intro u hu; simp at hu; subst hu; rfl
  · intro v' w' h1 h2 _
    refine h v' w' ?_ h2
    unfold OwnS
    rw [List.length_append, List.map_append]
    exact h1
theorem RowSl.strs {w : World} {a : Option Addr} {l : List ByteArray} (h : RowSl w a (l.map strV)) (hne : 0 < l.length) : ∃ b, a = some ⟨b, 0, none⟩ ∧ b < w.heap.size ∧ ∀ j, j < l.length → w.cell? ⟨b, 0 + j, none⟩ = some (.string (l.getD j ByteArray.empty)) := by
  obtain ⟨x, hx⟩ : ∃ x, l[0]? = some x := ⟨_, List.getElem?_eq_getElem hne⟩
  obtain ⟨b, rfl, hb, _⟩ := h 0 (strV x) (by rw [List.getElem?_map, hx]; rfl)
  refine ⟨b, rfl, hb, fun j hj => ?_⟩
  obtain ⟨b', e, _, hc⟩ := h j (strV l[j]) (by rw [List.getElem?_map, List.getElem?_eq_getElem hj]; rfl)
  cases e
  rw [Nat.zero_add, hc]
  simp [strV, List.getD, hj]
end Go.Proofs.YtameipbnobaoeaaDoor

/- strings.Join of any row. -/
namespace Go.Proofs.YtameipbnobaoeaaDoor
open Go.RowKit

theorem map_ofL (ps : List (List UInt8)) : (ps.map ofL).map (·.data.toList) = ps := by
  rw [List.map_map]
  conv => rhs; rw [← List.map_id ps]
  exact List.map_congr_left fun x _ => (by simp [ofL])
theorem str_Join (ps : List (List UInt8)) (m : UInt8) (a : Option Addr) (n c : Nat) (W : World) (hn : n = (ps.map ofL).length) (hrow : RowSl W a ((ps.map ofL).map strV)) (h1 : n ≤ c) (hz : (joinA m ps).length ≤ 140737488355328) (hps : ps.length ≤ 100000) :
    Calls Tryd.prog 22 #[.slice a n c, .string ⟨#[m]⟩] W fun e w' => e = .returned (.string (ofL (joinA m ps))) ∧ Below W.heap.size W w' := by
  subst hn
  have hj : Lib.join ((ps.map ofL).map (·.data.toList)) (⟨#[m]⟩ : ByteArray).data.toList = joinA m ps := by
    rw [map_ofL]
    exact joinA_lib m ps
  have hl : (ps.map ofL).length = ps.length := List.length_map _
  by_cases h0 : 0 < (ps.map ofL).length
  · obtain ⟨g, rfl, hg, hc⟩ := hrow.strs h0
    have := Tryd.strings_Join g 0 c (ps.map ofL) ⟨#[m]⟩ W (fun j x hj => by
      have hj' := (List.getElem?_eq_some_iff.1 hj).1
      rw [hc j hj']
      simp only [List.getD, hj, Option.getD_some]) hg (by omega) h1 (by rw [hj]; exact hz)
    rw [hj] at this
    exact this
  · have hnil : ps = [] := List.eq_nil_of_length_eq_zero (by omega)
    subst hnil
    refine (Tryd.strings_Join_none a c ⟨#[m]⟩ W).mono ?_
    rintro e w' ⟨rfl, rfl⟩
    exact ⟨rfl, Below.refl _ _⟩
end Go.Proofs.YtameipbnobaoeaaDoor

/- A call's own bytes, as a string. -/
namespace Go.Proofs.YtameipbnobaoeaaDoor
open Go.RowKit

theorem BytesSl.conv {w : World} {a : Option Addr} {len cap : Nat} {s : ByteArray} (h : BytesSl w (.slice a len cap) s) : (convert 55 9 (.slice a len cap)).run Tryd.prog w = .ok (.string s) w := by
  rcases h with ⟨h0, a', cap', e⟩ | ⟨b, off, cap', e, h1, h2, h3, h4⟩
  · cases e
    have hs : s = ⟨#[]⟩ := by
      apply ByteArray.ext
      apply Array.eq_empty_of_size_eq_zero
      exact h0
    subst hs
    cases a with
    | none =>
      exact run_convert_bytes_nil w 55 5 Tryd.underlying55 Tryd.underlying5 0 cap 9 Tryd.underlying9
    | some ad =>
      have := run_convert_bytes_back (P := Tryd.prog) w 55 9 5 ad cap [] Tryd.underlying55 Tryd.underlying5 Tryd.underlying9 (fun j hj => by simp at hj)
      exact this
  · cases e
    have := run_convert_bytes_back (P := Tryd.prog) w 55 9 5 ⟨b, off, none⟩ cap s.data.toList Tryd.underlying55 Tryd.underlying5 Tryd.underlying9 (fun j hj => by
      have hj' : j < s.size := hj
      rw [Addr.add_lit, h4 j hj']
      simp [byteAt, List.getD, List.getElem?_eq_getElem hj])
    exact this
theorem OwnB.conv {w : World} {base : Nat} {v : Value} {l : List UInt8} (h : OwnB w base v l) : (convert 55 9 v).run Tryd.prog w = .ok (.string ⟨l.toArray⟩) w := by
  rcases h.shape with ⟨rfl, rfl⟩ | ⟨g, cap, rfl, h1, h2, h3, h4⟩
  · exact BytesSl.conv h.sl
  · exact BytesSl.conv h.sl
end Go.Proofs.YtameipbnobaoeaaDoor

/- fold.Lower, fold.Same; the reference's Lower. -/
namespace Go.Proofs.YtameipbnobaoeaaDoor
open Go.RowKit

theorem ret_low {s t : ByteArray} (h : t = lowerS s) : Ending.returned (.string t) = .returned (.string (lowerS s)) := by rw [h]

set_option maxHeartbeats 1600000 in
theorem fold_Lower (s : ByteArray) (w : World) (hs : s.size ≤ 140737488351232) : Calls Tryd.prog 20 #[.string s] w fun e w' => e = .returned (.string (lowerS s)) ∧ Below w.heap.size w w' := by
  go_enter Tryd.func20, Tryd.ntmps20
  go_wp2_with ((with_reducible refine wpList_bytes (o := ⟨some 7, _, _, _, _, _⟩) rfl 9 55 5 _ rfl s rfl Tryd.underlying9 Tryd.underlying55 Tryd.underlying5 ?_); intro cap w1 hcap hB hb1 hsz1)
  go_loopw [10] (fun a wr => ∃ i : Nat, i ≤ s.size ∧ a = .int .i64 i ∧ BytesAt wr w.heap.size (lowTo s i) ∧ Below w.heap.size w wr) (fun a _ => s.size - (intOf a).toNat)
  case atStart => exact ⟨0, Nat.zero_le _, rfl, by rw [lowTo_zero]; exact hB, hb1⟩
  case round =>
    obtain ⟨i, hil, rfl, hBr, hbr⟩ := hrel
    by_cases hlt : i < s.size
    · have hc := hBr.cell (k := i) (by rw [lowTo_len]; exact hlt)
      have hfz := hBr.frozen (k := i) (by rw [lowTo_len]; exact hlt)
      rw [lowTo_at hlt] at hc
      have hst := fun b => hBr.store (k := i) (by rw [lowTo_len]; exact hlt) b
      have hset := lowTo_set hlt
      have hkeep := lowTo_keep hlt
      have hnat := lowerB_nat (byteAt s i)
      have hdef : lowerB (byteAt s i) = if 65 ≤ (byteAt s i).toNat ∧ (byteAt s i).toNat ≤ 90 then byteAt s i + 32 else byteAt s i := rfl
      have hb := (byteAt s i).toNat_lt
      generalize byteAt s i = c at *
      by_cases hc1 : 65 ≤ c.toNat
      · by_cases hc2 : c.toNat ≤ 90
        · have hor := or_letter c.toNat hc1 hc2
          have hv : (lowerB c).toNat = c.toNat + 32 := by rw [hnat]; unfold smallN; rw [if_pos ⟨hc1, hc2⟩]
          have h2 := hst (lowerB c)
          rw [hset, hv] at h2
          have H2 := Lib.hid h2
          clear hst hset hkeep hnat hdef hv h2 hBr
          go_wp2_with fail
          go_roundw
          case rel => exact ⟨i + 1, by omega, by go_num, H2.out, hbr.setCell (Nat.le_refl _) _⟩
          case measure => simp [intOf]; omega
        · have hk := hkeep (by rw [hdef, if_neg (by omega)])
          have h2 : BytesAt wr w.heap.size (lowTo s (i + 1)) := by rw [hk]; exact hBr
          have H2 := Lib.hid h2
          clear hst hset hkeep hnat hdef hk h2 hBr
          go_wp2_with fail
          go_roundw
          case rel => exact ⟨i + 1, by omega, by go_num, H2.out, hbr⟩
          case measure => simp [intOf]; omega
      · have hk := hkeep (by rw [hdef, if_neg (by omega)])
        have h2 : BytesAt wr w.heap.size (lowTo s (i + 1)) := by rw [hk]; exact hBr
        have H2 := Lib.hid h2
        clear hst hset hkeep hnat hdef hk h2 hBr
        go_wp2_with fail
        go_roundw
        case rel => exact ⟨i + 1, by omega, by go_num, H2.out, hbr⟩
        case measure => simp [intOf]; omega
    · obtain rfl : i = s.size := by omega
      have hcv := run_back wr 55 9 5 w.heap.size cap _ Tryd.underlying55 Tryd.underlying5 Tryd.underlying9 hBr
      rw [lowTo_len, lowTo_all] at hcv
      clear hBr
      have hcv2 : (convert 55 9 (.slice (some ⟨w.heap.size, 0, none⟩) s.size cap)).run Tryd.prog wr = .ok (.string (lowerS s)) wr := hcv
      clear hcv
      go_wp2_with fail
      go_ret
      exact ⟨rfl, hbr⟩

theorem ref_Small' (c : UInt8) (w : World) : Calls Tryd.prog 29 #[.int .u8 (c.toNat : Int)] w fun e w' => e = .returned (.int .u8 ((lowerB c).toNat : Int)) ∧ w = w' :=
  (ref_Small c.toNat c.toNat_lt w).mono fun _ _ ⟨a, b⟩ => ⟨by rw [a, lowerB_nat], b⟩

theorem one_sl (w : World) (b : UInt8) : BytesSl (w.alloc (.cells #[byteV b] 5)) (.slice (some ⟨w.heap.size, 0, none⟩) 1 1) ⟨#[b]⟩ :=
  BytesSl.lit w [b] _ 1 rfl rfl (by simp)

set_option maxHeartbeats 1600000 in
theorem ref_Lower (s : ByteArray) (w : World) (hs : s.size ≤ 16777216) : Calls Tryd.prog 18 #[.string s] w fun e w' => e = .returned (.string (lowerS s)) ∧ Below w.heap.size w w' := by
  go_enter Tryd.func18, Tryd.ntmps18
  go_wp2_with fail
  go_loopw [3, 4] (fun v a wr => ∃ i : Nat, i ≤ s.size ∧ a = .int .i64 i ∧ OwnB wr w.heap.size v (lowerL (s.data.toList.take i)) ∧ Below w.heap.size w wr) (fun _ a _ => s.size - (intOf a).toNat)
  case atStart => exact ⟨0, Nat.zero_le _, rfl, OwnB.lit w [] #[] 0 rfl rfl (Nat.le_refl _) (by simp), (Below.refl _ _).alloc (Nat.le_refl _) _⟩
  case round =>
    rename_i u3
    obtain ⟨i, hil, rfl, hown, hbr⟩ := hrel
    have hl : s.data.toList.length = s.size := rfl
    by_cases hlt : i < s.size
    · have hb : byteAt s i = s.data.toList[i]'(by omega) := by unfold byteAt; rw [List.getD, List.getElem?_eq_getElem (by omega)]; rfl
      have hst : lowerL (s.data.toList.take i) ++ [lowerB (byteAt s i)] = lowerL (s.data.toList.take (i + 1)) := by
        rw [hb, List.take_succ_eq_append_getElem (by omega)]; simp [lowerL]
      have hlen : (lowerL (s.data.toList.take i)).length = i := by simp [lowerL]; omega
      generalize hd : lowerL (s.data.toList.take i) = done at *
      have HST := Lib.hid hst
      have hbk : s[i] = byteAt s i := by simp [byteAt, List.getD, hlt]; rfl
      have HBK := Lib.hid hbk
      clear hst hd hb hbk
      go_wp2_with fail
      rw [HBK.out]
      generalize byteAt s i = c at *
      refine (ref_Small' c _).mono ?_
      rintro e w2 ⟨rfl, rfl⟩
      generalize lowerB c = d at *
      have hbf : Below wr.heap.size wr (wr.alloc (.cells #[byteV d] 5)) := (Below.refl _ _).alloc (Nat.le_refl _) _
      have hown2 := hown.below hbf
      have hbr2 := Bt hbr hbf
      clear hown hbf
      have hy := one_sl wr d
      go_wp2_with (at_builtin; refine wpList_app_bytes rfl _ _ rfl w.heap.size _ _ rfl hown2 _ ⟨#[d]⟩ rfl hy (by rw [hlen]; show i + 1 ≤ _; omega) hbr2.size ?_)
      intro v3 w3 hown3 hgr
      have hb3 := hown2.under hbr2 (Nat.le_refl _) hgr
      have ht : done ++ (⟨#[d]⟩ : ByteArray).data.toList = lowerL (s.data.toList.take (i + 1)) := HST.out
      rw [ht] at hown3
      clear ht hgr hown2 hy hbr2
      go_wp2_with fail
      go_roundw
      case rel => exact ⟨i + 1, by omega, by go_num, hown3, hb3⟩
      case measure => simp [intOf]; omega
    · obtain rfl : i = s.size := by omega
      rw [← hl, List.take_length] at hown
      have hcv : (convert 55 9 u3).run Tryd.prog wr = .ok (.string (lowerS s)) wr := hown.conv
      clear hown
      go_wp2_with fail
      go_ret
      exact ⟨rfl, hbr⟩
end Go.Proofs.YtameipbnobaoeaaDoor
