/- The reference's Same of requests. -/
import Derived.Test.YtibhohpamnpkcaaGreatDoorWirePlaysM8
import Derived.Test.YtibhohpamnpkcaaGreatDoorWirePlaysM5

namespace Go.Proofs.YtibhohpamnpkcaaGreatDoor
open Go.RowKit

theorem equalIn_host (a b : Int) (s t : ByteArray) (n : Nat) (w : World) : (Op.equalIn (n + 3) 33 (.agg #[.int .i64 a, .string s]) (.agg #[.int .i64 b, .string t])).run Tryz.prog w = .ok (decide (a = b) && decide (s = t)) w := by
  have u9 := Tryz.underlying9
  have u4 := Tryz.underlying3
  have z9 := Tryz.sizeOf9
  have z4 := Tryz.sizeOf3
  have a9 := Tryz.isAgg9
  have a4 := Tryz.isAgg3
  have hS : Tryz.prog.underlying 33 = some (.struct (Tryz.prog.fieldsOf 33)) := by kernel_rfl
  have hp : Tryz.prog.stoodInHeld 33 = false := by kernel_rfl
  rw [run_equalIn_agg w (n + 2) 33 _ _ hS hp]
  simp only [Program.fieldsOf, Tryz.underlying33]
  go_simp
  simp only [toList_eqW]
  by_cases h1 : a = b
  · by_cases h2 : s = t
    · simp [h1, h2]
    · simp [h1, h2]
  · simp [h1]
theorem rq_neq (a b : Rq) (w : World) : (binOp .neq 35 (rqV a) (rqV b)).run Tryz.prog w = .ok (.bool (!decide (a = b))) w := by
  obtain ⟨a0, a1, a2, a3, a4, a5⟩ := a
  obtain ⟨b0, b1, b2, b3, b4, b5⟩ := b
  show (binOp .neq 35 (.agg #[.int .u64 a0, .string a1, .bool a2, .int .i64 a3, .string a4, .string a5]) (.agg #[.int .u64 b0, .string b1, .bool b2, .int .i64 b3, .string b4, .string b5])).run Tryz.prog w = _
  have u9 := Tryz.underlying9
  have u4 := Tryz.underlying4
  have uu := Tryz.underlying29
  have z9 := Tryz.sizeOf9
  have z4 := Tryz.sizeOf4
  have zu := Tryz.sizeOf29
  have ag9 := Tryz.isAgg9
  have ag4 := Tryz.isAgg4
  have agu := Tryz.isAgg29
  have zh := Tryz.sizeOf33
  have agh := Tryz.isAgg33
  have hS : Tryz.prog.underlying 35 = some (.struct (Tryz.prog.fieldsOf 35)) := by kernel_rfl
  have hp : Tryz.prog.stoodInHeld 35 = false := by kernel_rfl
  rw [run_neq_struct, show (10000 : Nat) = 9999 + 1 from rfl, run_equalIn_agg w 9999 35 _ _ hS hp]
  simp only [Program.fieldsOf, Tryz.underlying35]
  have hH := fun W => equalIn_host a3 b3 a4 b4 9996 W
  go_simp
  simp only [toList_eqW]
  by_cases h0 : a0 = b0
  · by_cases h1 : a1 = b1
    · by_cases h2 : a2 = b2
      · by_cases h3 : a3 = b3
        · by_cases h4 : a4 = b4
          · by_cases h5 : a5 = b5
            · simp [h0, h1, h2, h3, h4, h5]
            · simp [h0, h1, h2, h3, h4, h5]
          · simp [h0, h1, h2, h3, h4]
        · simp [h0, h1, h2, h3]
      · simp [h0, h1, h2]
    · simp [h0, h1]
  · simp [h0]
theorem own_rq_cells {w : World} {base : Nat} {v : Value} {l : List Rq} {i : Nat} {x : Rq} (h : OwnR w base v l) (hx : l[i]? = some x) : ∃ R cap, v = .slice (some ⟨R, 0, none⟩) l.length cap ∧ R < w.heap.size ∧
    w.cell? ⟨R, i * 6, none⟩ = some (.int .u64 x.id) ∧ w.cell? ⟨R, i * 6 + 1, none⟩ = some (.string x.app) ∧ w.cell? ⟨R, i * 6 + 2, none⟩ = some (.bool x.apple) ∧ w.cell? ⟨R, i * 6 + 3, none⟩ = some (.int .i64 x.kind) ∧
    w.cell? ⟨R, i * 6 + 4, none⟩ = some (.string x.text) ∧ w.cell? ⟨R, i * 6 + 5, none⟩ = some (.string x.url) := by
  have hne : l ≠ [] := fun e => by rw [e] at hx; simp at hx
  obtain ⟨R, cap, e, _, _, _, hR, hc⟩ := h.row hne
  exact ⟨R, cap, e, hR, hc _ _ (rqsV_at hx 0 (by omega)), hc _ _ (rqsV_at hx 1 (by omega)), hc _ _ (rqsV_at hx 2 (by omega)), hc _ _ (rqsV_at hx 3 (by omega)), hc _ _ (rqsV_at hx 4 (by omega)), hc _ _ (rqsV_at hx 5 (by omega))⟩
set_option maxHeartbeats 3200000 in
set_option maxRecDepth 100000 in
theorem ref26_Same (v1 v2 : Value) (B1 B2 : Nat) (l1 l2 : List Rq) (w : World) (h1 : OwnR w B1 v1 l1) (h2 : OwnR w B2 v2 l2) (hl : l1.length ≤ 16777216) :
    Calls Tryz.prog 7 #[v1, v2] w fun e w' => e = .returned (.bool (decide (l1 = l2))) ∧ ∃ m, w.drewN m = w' := by
  obtain ⟨a1, c1, e1, _⟩ := own_shape h1
  obtain ⟨a2, c2, e2, _⟩ := own_shape h2
  subst e1 e2
  by_cases hn : l1.length = l2.length
  · have hnI : ((l1.length : Int) != (l2.length : Int)) = false := by simp; omega
    have HN := Lib.hid hn
    have h12 : l1.length ≤ l2.length := by omega
    clear hn
    go_enter Tryz.func7, Tryz.ntmps7
    go_wp2_with fail
    go_loopw [5] (fun i wr => ∃ k m : Nat, k ≤ l1.length ∧ i = .int .i64 k ∧ w.drewN m = wr ∧ l1.take k = l2.take k) (fun i _ => l1.length - (intOf i).toNat)
    case atStart => exact ⟨0, 0, Nat.zero_le _, rfl, rfl, rfl⟩
    case round =>
      obtain ⟨k, m, hk, rfl, rfl, hall⟩ := hrel
      have HA := Lib.hid hall
      clear hall
      by_cases hlt : k < l1.length
      · obtain ⟨x, hx⟩ : ∃ x, l1[k]? = some x := ⟨_, List.getElem?_eq_getElem hlt⟩
        obtain ⟨y, hy⟩ : ∃ y, l2[k]? = some y := ⟨_, List.getElem?_eq_getElem (by omega)⟩
        obtain ⟨R1, p1, e1, hb1, d0, d1, d2, d3, d4, d5⟩ := own_rq_cells h1 hx
        injection e1 with e1 _ e3
        subst e1 e3
        obtain ⟨R2, p2, e2, hb2, f0, f1, f2, f3, f4, f5⟩ := own_rq_cells h2 hy
        injection e2 with e2 _ e4
        subst e2 e4
        have i1 : (k : Int) < (l1.length : Int) := by omega
        have i2 : (k : Int) < (l2.length : Int) := by omega
        have hcm := fun W => rq_neq x y W
        have hstep : x = y → l1.take (k + 1) = l2.take (k + 1) := by
          intro e
          rw [List.take_add_one, List.take_add_one, HA.out, hx, hy, e]
        have hne : x ≠ y → l1 ≠ l2 := by
          intro e e'
          rw [e', hy] at hx
          exact e (Option.some.inj hx).symm
        have HS := Lib.hid hstep
        have HNE := Lib.hid hne
        clear hstep hne hx hy h1 h2
        by_cases hxy : x = y
        · simp only [decide_eq_true hxy, Bool.not_true] at hcm
          have HX := Lib.hid (HS.out hxy)
          clear hxy HS HNE
          obtain ⟨x0, x1, x2, x3, x4, x5⟩ := x
          obtain ⟨y0, y1, y2, y3, y4, y5⟩ := y
          simp only [rqV] at hcm
          simp only at d0 d1 d2 d3 d4 d5 f0 f1 f2 f3 f4 f5
          go_wp2_with fail
          go_quiet (fail)
          go_wp2_with fail
          go_roundw
          case rel => exact ⟨k + 1, _, by omega, by go_num, rfl, HX.out⟩
          case measure => simp [intOf]; omega
        · simp only [decide_eq_false hxy, Bool.not_false] at hcm
          have HX := Lib.hid (HNE.out hxy)
          clear hxy HS HNE
          obtain ⟨x0, x1, x2, x3, x4, x5⟩ := x
          obtain ⟨y0, y1, y2, y3, y4, y5⟩ := y
          simp only [rqV] at hcm
          simp only at d0 d1 d2 d3 d4 d5 f0 f1 f2 f3 f4 f5
          go_wp2_with fail
          go_quiet (fail)
          go_wp2_with fail
          go_ret
          exact ⟨ret_bool (decide_eq_false HX.out).symm, _, (World.drewN_drewN _ _ _).symm⟩
      · obtain rfl : k = l1.length := by omega
        have HX := Lib.hid (show l1 = l2 by
          have := HA.out
          rwa [List.take_length, HN.out, List.take_length] at this)
        go_wp2_with fail
        go_ret
        exact ⟨ret_bool (decide_eq_true HX.out).symm, m, rfl⟩
  · have hnI : ((l1.length : Int) != (l2.length : Int)) = true := by simp; omega
    have hne : l1 ≠ l2 := fun h => hn (by rw [h])
    have HNE := Lib.hid hne
    clear hne hn h1 h2
    go_enter Tryz.func7, Tryz.ntmps7
    go_wp2_with fail
    go_ret
    exact ⟨ret_bool (decide_eq_false HNE.out).symm, 0, rfl⟩
/-- A host's text in a URL. -/
def hostT (kind : Int) (text : ByteArray) : ByteArray := if kind = 3 then ⟨#[91]⟩ ++ text ++ ⟨#[93]⟩ else text
set_option maxHeartbeats 800000 in
theorem host_Text (kind : Int) (text : ByteArray) (w : World) (ht : text.size ≤ 16777216) : Calls Tryz.prog 37 #[.agg #[.int .i64 kind, .string text]] w fun e w' => e = .returned (.string (hostT kind text)) ∧ Below w.heap.size w w' := by
  have hal : Below w.heap.size w (w.alloc (.cells #[.int .i64 kind, .string text] 33)) := (Below.refl _ _).alloc (Nat.le_refl _) _
  by_cases hk : kind = 3
  · have e0 : (kind == 3) = true := by rw [hk]; rfl
    have HH := Lib.hid (show hostT kind text = ⟨#[91]⟩ ++ text ++ ⟨#[93]⟩ by unfold hostT; rw [if_pos hk])
    have s1 : ((⟨#[91]⟩ : ByteArray) ++ text).size = text.size + 1 := by rw [ByteArray.size_append]; show 1 + _ = _; omega
    clear hk
    go_enter Tryz.func37, Tryz.ntmps37
    go_wp2_with fail
    go_ret
    exact ⟨by rw [HH.out]; rfl, hal⟩
  · have e0 : (kind == 3) = false := by rw [beq_eq_false_iff_ne]; exact hk
    have HH := Lib.hid (show hostT kind text = text by unfold hostT; rw [if_neg hk])
    clear hk
    go_enter Tryz.func37, Tryz.ntmps37
    go_wp2_with fail
    go_ret
    exact ⟨by rw [HH.out]; rfl, hal⟩
end Go.Proofs.YtibhohpamnpkcaaGreatDoor

/- The URLs of Apple's documents: the program's and the reference's. -/
namespace Go.Proofs.YtibhohpamnpkcaaGreatDoor
open Go.RowKit

set_option maxHeartbeats 800000 in
theorem ref13_Text (kind : Int) (text : ByteArray) (w : World) (ht : text.size ≤ 16777216) : Calls Tryz.prog 38 #[.agg #[.int .i64 kind, .string text]] w fun e w' => e = .returned (.string (hostT kind text)) ∧ Below w.heap.size w w' := by
  have hal : Below w.heap.size w (w.alloc (.cells #[.int .i64 kind, .string text] 33)) := (Below.refl _ _).alloc (Nat.le_refl _) _
  by_cases hk : kind = 3
  · have e0 : (kind == 3) = true := by rw [hk]; rfl
    have HH := Lib.hid (show hostT kind text = ⟨#[91]⟩ ++ text ++ ⟨#[93]⟩ by unfold hostT; rw [if_pos hk])
    have s1 : ((⟨#[91]⟩ : ByteArray) ++ text).size = text.size + 1 := by rw [ByteArray.size_append]; show 1 + _ = _; omega
    clear hk
    go_enter Tryz.func38, Tryz.ntmps38
    go_wp2_with fail
    go_ret
    exact ⟨by rw [HH.out]; rfl, hal⟩
  · have e0 : (kind == 3) = false := by rw [beq_eq_false_iff_ne]; exact hk
    have HH := Lib.hid (show hostT kind text = text by unfold hostT; rw [if_neg hk])
    clear hk
    go_enter Tryz.func38, Tryz.ntmps38
    go_wp2_with fail
    go_ret
    exact ⟨by rw [HH.out]; rfl, hal⟩
theorem hostT_size (kind : Int) (text : ByteArray) : (hostT kind text).size ≤ text.size + 2 := by
  unfold hostT
  split
  · rw [ByteArray.size_append, ByteArray.size_append]
    show 1 + _ + 1 ≤ _
    omega
  · omega
def urlHead : ByteArray := ⟨#[104, 116, 116, 112, 115, 58, 47, 47]⟩
def urlTail : ByteArray := "/.well-known/apple-app-site-association".toUTF8
def urlT (kind : Int) (text : ByteArray) : ByteArray := urlHead ++ hostT kind text ++ urlTail
set_option maxHeartbeats 800000 in
theorem wire_AppleURL (kind : Int) (text : ByteArray) (w : World) (ht : text.size ≤ 1000) : Calls Tryz.prog 19 #[.agg #[.int .i64 kind, .string text]] w fun e w' => e = .returned (.string (urlT kind text)) ∧ Below w.heap.size w w' := by
  have hal : Below w.heap.size w (w.alloc (.cells #[.int .i64 kind, .string text] 33)) := (Below.refl _ _).alloc (Nat.le_refl _) _
  go_enter Tryz.func19, Tryz.ntmps19
  go_wp2_with fail
  refine (host_Text kind text _ (by omega)).mono ?_
  rintro e w2 ⟨rfl, hb⟩
  have hz := hostT_size kind text
  have HU := Lib.hid (show urlT kind text = urlHead ++ hostT kind text ++ urlTail from rfl)
  generalize hostT kind text = u at hz HU ⊢
  have s1 : ((⟨#[104, 116, 116, 112, 115, 58, 47, 47]⟩ : ByteArray) ++ u).size = u.size + 8 := by rw [ByteArray.size_append]; show 8 + _ = _; omega
  have hz2 : u.size ≤ 1002 := by omega
  have HB := Lib.hid (hal.trans (hb.mono (by simp)))
  go_wp2_with fail
  go_ret
  exact ⟨by rw [HU.out]; rfl, HB.out⟩
set_option maxHeartbeats 800000 in
theorem ref26_AppleURL (kind : Int) (text : ByteArray) (w : World) (ht : text.size ≤ 1000) : Calls Tryz.prog 20 #[.agg #[.int .i64 kind, .string text]] w fun e w' => e = .returned (.string (urlT kind text)) ∧ Below w.heap.size w w' := by
  have hal : Below w.heap.size w (w.alloc (.cells #[.int .i64 kind, .string text] 33)) := (Below.refl _ _).alloc (Nat.le_refl _) _
  go_enter Tryz.func20, Tryz.ntmps20
  go_wp2_with fail
  refine (ref13_Text kind text _ (by omega)).mono ?_
  rintro e w2 ⟨rfl, hb⟩
  have hz := hostT_size kind text
  have HU := Lib.hid (show urlT kind text = urlHead ++ hostT kind text ++ urlTail from rfl)
  generalize hostT kind text = u at hz HU ⊢
  have s1 : ((⟨#[104, 116, 116, 112, 115, 58, 47, 47]⟩ : ByteArray) ++ u).size = u.size + 8 := by rw [ByteArray.size_append]; show 8 + _ = _; omega
  have hz2 : u.size ≤ 1002 := by omega
  have HB := Lib.hid (hal.trans (hb.mono (by simp)))
  go_wp2_with fail
  go_ret
  exact ⟨by rw [HU.out]; rfl, HB.out⟩
end Go.Proofs.YtibhohpamnpkcaaGreatDoor

/- The program's Ask: blocks of other types stay. -/
namespace Go.Proofs.YtibhohpamnpkcaaGreatDoor
open Go.RowKit

set_option maxHeartbeats 3200000 in
set_option maxRecDepth 100000 in
theorem book_AskT (b base last : Nat) (l : List Wt) (r : Rq) (now : Int) (w : World) (h : BookAt w base b l last) (hl : l.length ≤ 1000) (hlast : last ≤ 1000) :
    Calls Tryz.prog 16 #[.pointer (some ⟨b, 0, none⟩), rqV r, .int .u64 now] w fun e w' => e = .returned (rqV { r with id := (last : Int) + 1 }) ∧ BookAt w' base b (l ++ [⟨{ r with id := (last : Int) + 1 }, now⟩]) (last + 1) ∧ Below base w w' ∧ Typed w w' := by
  obtain ⟨v, c0, c1, f0, f1, hbw, hbb, hown, hvb⟩ := h.cell0
  obtain ⟨v', hv1, hv2, hv3, hv4⟩ := h
  obtain rfl : v' = v := by
    have := (cell_of_row _ _ 0 _ _ _ hv2).symm.trans c0
    simpa using this
  have vlt : ∀ k, v'.ownBlock = some k → k < w.heap.size := fun k hk => (World.ownsRow.lt hown k hk).2
  obtain ⟨x0, x1, x2, x3, x4, x5⟩ := r
  have z1 : IntKind.u64.wrap ((last : Int) + 1) = (last : Int) + 1 := IntWalk.u64_in _ (by omega)
  show Calls Tryz.prog _ #[.pointer (some ⟨b, 0, none⟩), .agg #[.int .u64 x0, .string x1, .bool x2, .int .i64 x3, .string x4, .string x5], .int .u64 now] w _
  have hw1 : Below base w (w.setCell ⟨b, 1, none⟩ (.int .u64 ((last : Int) + 1))) := (Below.refl base w).setCell (show base ≤ (⟨b, 1, none⟩ : Addr).block from hbb) _
  have hs1 : (w.setCell ⟨b, 1, none⟩ (.int .u64 ((last : Int) + 1))).heap.size = w.heap.size := by simp [World.setCell]
  have hb1 := book_set1 (y := .int .u64 ((last : Int) + 1)) hv2
  have ho1 := hown.setOther (j := 1) hvb (.int .u64 ((last : Int) + 1))
  have ht1 := Typed.setBook hv2 1 (.int .u64 ((last : Int) + 1))
  obtain ⟨W1, hW1⟩ : ∃ W1, W1 = w.setCell ⟨b, 1, none⟩ (.int .u64 ((last : Int) + 1)) := ⟨_, rfl⟩
  rw [← hW1] at hw1 hs1 hb1 ho1 ht1
  have ha2 : Below W1.heap.size W1 (W1.alloc (.cells #[.int .u64 ((last : Int) + 1), .string x1, .bool x2, .int .i64 x3, .string x4, .string x5] 35)) := (Below.refl _ _).alloc (Nat.le_refl _) _
  have hq1 := heap_alloc_new W1 (.cells #[.int .u64 ((last : Int) + 1), .string x1, .bool x2, .int .i64 x3, .string x4, .string x5] 35)
  have hs2 : (W1.alloc (.cells #[.int .u64 ((last : Int) + 1), .string x1, .bool x2, .int .i64 x3, .string x4, .string x5] 35)).heap.size = w.heap.size + 1 := by simp [hs1]
  obtain ⟨W2, hW2⟩ : ∃ W2, W2 = W1.alloc (.cells #[.int .u64 ((last : Int) + 1), .string x1, .bool x2, .int .i64 x3, .string x4, .string x5] 35) := ⟨_, rfl⟩
  rw [← hW2] at ha2 hq1 hs2
  have ha3 : Below W2.heap.size W2 (W2.alloc (.cells #[.int .u64 0, .string ⟨#[]⟩, .bool false, .int .i64 0, .string ⟨#[]⟩, .string ⟨#[]⟩] 35)) := (Below.refl _ _).alloc (Nat.le_refl _) _
  have hq2 := heap_alloc_new W2 (.cells #[.int .u64 0, .string ⟨#[]⟩, .bool false, .int .i64 0, .string ⟨#[]⟩, .string ⟨#[]⟩] 35)
  have hs3 : (W2.alloc (.cells #[.int .u64 0, .string ⟨#[]⟩, .bool false, .int .i64 0, .string ⟨#[]⟩, .string ⟨#[]⟩] 35)).heap.size = w.heap.size + 2 := by simp [hs2]
  obtain ⟨W, hW⟩ : ∃ W, W = W2.alloc (.cells #[.int .u64 0, .string ⟨#[]⟩, .bool false, .int .i64 0, .string ⟨#[]⟩, .string ⟨#[]⟩] 35) := ⟨_, rfl⟩
  rw [← hW] at ha3 hq2 hs3
  have ha13 := Bt ha2 ha3
  have hbW := (ha13.block b (by omega)).trans hb1
  have htW := ht1.trans (Typed.of_below ha13)
  have hoW := ho1.below ha13
  have hqW1 := (ha3.block W1.heap.size (by omega)).trans hq1
  have hwW : Below base w W := hw1.trans (ha13.mono (by omega))
  rw [hs1] at hqW1
  rw [hs2] at hq2
  rw [hW1] at hW2
  rw [hW2] at hW
  have hal0 : Below W.heap.size W (W.alloc (.cells #[.int .u64 ((last : Int) + 1), .string x1, .bool x2, .int .i64 x3, .string x4, .string x5, .int .u64 now] 82)) := (Below.refl _ _).alloc (Nat.le_refl _) _
  have hal : Below W.heap.size W (W.alloc (.cells #[.int .u64 ((last : Int) + 1), .string x1, .bool x2, .int .i64 x3, .string x4, .string x5, .int .u64 now] 82)).drew := hal0.drew
  have hblk := heap_alloc_new W (.cells #[.int .u64 ((last : Int) + 1), .string x1, .bool x2, .int .i64 x3, .string x4, .string x5, .int .u64 now] 82)
  rw [hs3] at hblk
  have hown2 := hoW.below hal
  have cW : W.cell? ⟨b, 0, none⟩ = some v' := (cell_of_row _ _ 0 _ _ _ hbW).trans rfl
  have fW : W.frozen? ⟨b, 0, none⟩ = false := by simp [World.frozen?, hbW]
  obtain ⟨k0, k1, k2, k3, k4, k5⟩ := rq_block (r := ⟨(last : Int) + 1, x1, x2, x3, x4, x5⟩) hqW1
  obtain ⟨va, vc, rfl⟩ : ∃ a c, v' = .slice a l.length c := by
    rcases hown.cases with ⟨rfl, rfl⟩ | ⟨g, cap, rfl, _⟩
    · exact ⟨_, _, rfl⟩
    · exact ⟨_, _, rfl⟩
  have hbW' : b < W.heap.size := by omega
  have hqq : w.heap.size < W.heap.size := by omega
  have HW := Lib.hid hW
  have HTW := Lib.hid htW
  have HALL := Lib.hid (show W.heap[b]? = some (.cells #[.slice va l.length vc, .int .u64 ((last : Int) + 1)] 79 (0, 0)) ∧ W.heap[w.heap.size]? = _ ∧ W.heap[w.heap.size + 1]? = _ ∧ Below base w W ∧ W.heap.size = w.heap.size + 2 from ⟨hbW, hqW1, hq2, hwW, hs3⟩)
  clear hW hW1 hW2 hw1 hs1 hb1 ho1 ht1 htW ha2 hq1 hs2 ha3 hq2 ha13 hbW hqW1 hwW hv2 hv3 hv4
  go_enter Tryz.func16, Tryz.ntmps16
  go_upto_region 3 with (fail)
  rw [← HW.out]
  clear c0 c1 f0 f1
  have cD : W.drew.cell? ⟨b, 0, none⟩ = some (.slice va l.length vc) := cW
  have cA : (W.alloc (.cells #[.int .u64 ((last : Int) + 1), .string x1, .bool x2, .int .i64 x3, .string x4, .string x5, .int .u64 now] 82)).cell? ⟨b, 0, none⟩ = some (.slice va l.length vc) := (hal0.cell (p := ⟨b, 0, none⟩) hbW').trans cW
  have kD0 : W.drew.cell? ⟨w.heap.size, 0, none⟩ = _ := k0
  have kD1 : W.drew.cell? ⟨w.heap.size, 1, none⟩ = _ := k1
  have kD2 : W.drew.cell? ⟨w.heap.size, 2, none⟩ = _ := k2
  have kD3 : W.drew.cell? ⟨w.heap.size, 3, none⟩ = _ := k3
  have kD4 : W.drew.cell? ⟨w.heap.size, 4, none⟩ = _ := k4
  have kD5 : W.drew.cell? ⟨w.heap.size, 5, none⟩ = _ := k5
  go_region_law (refine step_wt rfl (.tmp 23) (.tmp 27) rfl base _ l ⟨⟨(last : Int) + 1, x1, x2, x3, x4, x5⟩, now⟩ (by simp [Act.eval, Act.put]) hown2 (w.heap.size + 2) (by simp [Act.eval, Act.put]) hblk hl (by simp; omega) ?_; intro g4 c4 w4 hown4 hst4 hgor; have hbl : b < w4.heap.size := (by have := hst4.size; simp at this; omega); have m0 := (World.cell?_of_block (a := ⟨b, 0, none⟩) (hst4.block b (by simp; omega) (fun e => hvb e.symm))).trans ((hal.cell (p := ⟨b, 0, none⟩) hbW').trans cW); have m1 := (World.frozen?_of_block (a := ⟨b, 0, none⟩) (hst4.block b (by simp; omega) (fun e => hvb e.symm))).trans ((World.frozen?_of_block (a := ⟨b, 0, none⟩) (hal.block b hbW')).trans fW))
  all_goals
    have hne : ∀ k, w.heap.size ≤ k → some k ≠ (Value.slice va l.length vc).ownBlock := fun k hk e => by have := vlt k e.symm; omega
    have hq : ∀ k, w.heap.size ≤ k → k < W.heap.size → (w4.setCell ⟨b, 0, none⟩ (.slice (some ⟨g4, 0, none⟩) (l.length + 1) c4)).heap[k]? = W.heap[k]? := fun k hk hk2 =>
      (Below.heap_setCell w4 ⟨b, 0, none⟩ _ k (by show k ≠ b; omega)).trans ((hst4.block k (by simp; omega) (hne k hk)).trans (hal.block k hk2))
    have hB5 := book_set0 (y := .slice (some ⟨g4, 0, none⟩) (l.length + 1) c4) ((hst4.block b (by simp; omega) (fun e => hvb e.symm)).trans ((hal.block b hbW').trans HALL.out.1))
    have hgb : g4 ≠ b := by
      rcases hgor with e | e
      · rintro rfl; exact hvb e
      · rintro rfl; simp at e; omega
    have hO5 := hown4.setOther (b := b) (j := 0) (by simp [Value.ownBlock]; exact hgb) (.slice (some ⟨g4, 0, none⟩) (l.length + 1) c4)
    have hQ1 := (hq w.heap.size (Nat.le_refl _) (by omega)).trans HALL.out.2.1
    have hQ2 := (hq (w.heap.size + 1) (by omega) (by omega)).trans HALL.out.2.2.1
    have hb4 := (HALL.out.2.2.2.1.trans (hal.mono (by omega))).grown hst4 (by simp; omega) (fun k hk => (World.ownsRow.lt hown2 k hk).1)
    have ht5 := ((HTW.out.trans (Typed.of_below hal)).trans (Typed.grownW hst4 hown2)).trans (Typed.setBook ((hst4.block b (by simp; omega) (fun e => hvb e.symm)).trans ((hal.block b hbW').trans HALL.out.1)) 0 (.slice (some ⟨g4, 0, none⟩) (l.length + 1) c4))
    have hb5 := hb4.setCell (show base ≤ (⟨b, 0, none⟩ : Addr).block from hbb) (.slice (some ⟨g4, 0, none⟩) (l.length + 1) c4)
    generalize w4.setCell ⟨b, 0, none⟩ (.slice (some ⟨g4, 0, none⟩) (l.length + 1) c4) = w5 at *
    obtain ⟨m0', m1', m2', m3', m4', m5'⟩ := rq_block (r := ⟨(last : Int) + 1, x1, x2, x3, x4, x5⟩) hQ1
    have hl5 := lt_of_block hQ1
    have hgq : g4 ≠ w.heap.size + 1 := by
      rcases hgor with e | e
      · have := vlt g4 e; omega
      · simp at e; omega
    have HF := Lib.hid (show BookAt (w5.setRow (w.heap.size + 1) (rqC ⟨(last : Int) + 1, x1, x2, x3, x4, x5⟩).toArray) base b (l ++ [⟨⟨(last : Int) + 1, x1, x2, x3, x4, x5⟩, now⟩]) (last + 1) from ⟨_, hbb, (setRow_other w5 _ b _ (by omega)).trans hB5, by
      have := hO5.setRowOther (w.heap.size + 1) (by simp [Value.ownBlock]; exact hgq) (rqC ⟨(last : Int) + 1, x1, x2, x3, x4, x5⟩).toArray
      exact this, by simp [Value.ownBlock]; exact hgb⟩)
    have HT6 := Lib.hid (ht5.setNew (show w.heap.size ≤ w.heap.size + 1 by omega) (rqC ⟨(last : Int) + 1, x1, x2, x3, x4, x5⟩).toArray)
    have HB6 := Lib.hid (below_setRowW hb5 (show base ≤ w.heap.size + 1 by omega) (rqC ⟨(last : Int) + 1, x1, x2, x3, x4, x5⟩).toArray)
    clear hq hne hB5 hO5 hQ1 hb4 hb5 ht5 hown4 hst4 hgor m0 m1 hal hal0 hblk cW fW cD cA kD0 kD1 kD2 kD3 kD4 kD5 k0 k1 k2 k3 k4 k5 hown2 hoW
    go_wp2_with (refine wpList_store_rq (o := ⟨none, _, _, _, _, _⟩) rfl _ _ rfl (w.heap.size + 1) ⟨(last : Int) + 1, x1, x2, x3, x4, x5⟩ rq0 rfl rfl hQ2 ?_)
    (try simp only [Exit.inBlock, Exit.then])
    refine bodyPost_ret (results_rq1 rfl rfl (setRow_heap w5 (w.heap.size + 1) _ _ _ _ hQ2)) rfl ?_
    exact ⟨rfl, HF.out, HB6.out, HT6.out⟩
end Go.Proofs.YtibhohpamnpkcaaGreatDoor

/- A script's calls on a book, in memory; what stays true of a book. -/
namespace Go.Proofs.YtibhohpamnpkcaaGreatDoor
open Go.RowKit

structure OpW where
  kind : Int
  tick : Int
  r : Rq
def OpsSl (w : World) (a : Option Addr) (l : List OpW) : Prop := ∀ (i : Nat) (x : OpW), l[i]? = some x → ∃ b off, a = some ⟨b, off, none⟩ ∧ b < w.heap.size ∧
  w.cell? ⟨b, off + i * 8, none⟩ = some (.int .i64 x.kind) ∧ w.cell? ⟨b, off + i * 8 + 1, none⟩ = some (.int .u64 x.tick) ∧ w.cell? ⟨b, off + i * 8 + 2, none⟩ = some (.int .u64 x.r.id) ∧ w.cell? ⟨b, off + i * 8 + 3, none⟩ = some (.string x.r.app) ∧
  w.cell? ⟨b, off + i * 8 + 4, none⟩ = some (.bool x.r.apple) ∧ w.cell? ⟨b, off + i * 8 + 5, none⟩ = some (.int .i64 x.r.kind) ∧ w.cell? ⟨b, off + i * 8 + 6, none⟩ = some (.string x.r.text) ∧ w.cell? ⟨b, off + i * 8 + 7, none⟩ = some (.string x.r.url)
theorem OpsSl.below {w w' : World} {a : Option Addr} {l : List OpW} (h : OpsSl w a l) (hb : Below w.heap.size w w') : OpsSl w' a l := by
  intro i x hx
  obtain ⟨b, off, e, hlt, h0, h1, h2, h3, h4, h5, h6, h7⟩ := h i x hx
  exact ⟨b, off, e, Nat.lt_of_lt_of_le hlt hb.size, (hb.cell (p := ⟨b, _, none⟩) hlt).trans h0, (hb.cell (p := ⟨b, _, none⟩) hlt).trans h1, (hb.cell (p := ⟨b, _, none⟩) hlt).trans h2, (hb.cell (p := ⟨b, _, none⟩) hlt).trans h3, (hb.cell (p := ⟨b, _, none⟩) hlt).trans h4, (hb.cell (p := ⟨b, _, none⟩) hlt).trans h5, (hb.cell (p := ⟨b, _, none⟩) hlt).trans h6, (hb.cell (p := ⟨b, _, none⟩) hlt).trans h7⟩
def IdsOk (l : List Wt) (n : Nat) : Prop := (l.map (·.r.id)).Nodup ∧ ∀ x ∈ l, 1 ≤ x.r.id ∧ x.r.id ≤ n
theorem IdsOk.sub {l l' : List Wt} {n : Nat} (h : IdsOk l n) (hs : l'.Sublist l) : IdsOk l' n := ⟨h.1.sublist (hs.map _), fun x hx => h.2 x (hs.subset hx)⟩
theorem IdsOk.nil : IdsOk [] 0 := ⟨by simp, fun x h => by cases h⟩
theorem IdsOk.ask {l : List Wt} {n : Nat} (h : IdsOk l n) (y : Wt) (hy : y.r.id = (n : Int) + 1) : IdsOk (l ++ [y]) (n + 1) := by
  refine ⟨?_, fun x hx => ?_⟩
  · rw [List.map_append, List.nodup_append]
    refine ⟨h.1, by simp, fun a ha b hb => ?_⟩
    obtain ⟨x, hx, rfl⟩ := List.mem_map.1 ha
    have h2 := h.2 x hx
    simp at hb
    subst hb
    omega
  · rcases List.mem_append.1 hx with h1 | h1
    · have := h.2 x h1; omega
    · obtain rfl : x = y := by simpa using h1
      omega
theorem erase_sub (l : List Wt) (i : Nat) : (l.take i ++ l.drop (i + 1)).Sublist l := by
  conv => rhs; rw [← List.take_append_drop i l]
  refine List.Sublist.append (List.Sublist.refl _) ?_
  rw [show l.drop (i + 1) = (l.drop i).drop 1 by rw [List.drop_drop]]
  exact List.drop_sublist _ _
theorem IdsOk.once {l : List Wt} {n i : Nat} {x : Wt} (h : IdsOk l n) (hx : l[i]? = some x) : ∀ y ∈ l.take i ++ l.drop (i + 1), y.r.id ≠ x.r.id := by
  have hi := (List.getElem?_eq_some_iff.1 hx).1
  have e : l = l.take i ++ x :: l.drop (i + 1) := by
    conv => lhs; rw [← List.take_append_drop i l]
    congr 1
    obtain ⟨_, rfl⟩ := List.getElem?_eq_some_iff.1 hx
    exact List.drop_eq_getElem_cons hi
  have hn := h.1
  rw [e, List.map_append, List.map_cons, List.nodup_append, List.nodup_cons] at hn
  intro y hy hid
  rcases List.mem_append.1 hy with h1 | h1
  · exact hn.2.2 _ (List.mem_map.2 ⟨y, h1, rfl⟩) _ (List.mem_cons_self ..) hid
  · exact hn.2.1.1 (List.mem_map.2 ⟨y, h1, hid⟩)
theorem filter_both (P : Wt → Bool) (l : List Wt) : (l.filter P).length + (l.filter fun x => !P x).length = l.length := by
  induction l with
  | nil => rfl
  | cons x l ih => cases h : P x <;> simp [h] <;> omega
theorem erase_len {l : List Wt} {i : Nat} (h : i < l.length) : (l.take i ++ l.drop (i + 1)).length + 1 = l.length := by rw [List.length_append, List.length_take, List.length_drop]; omega
end Go.Proofs.YtibhohpamnpkcaaGreatDoor

/- What stays of each book while the other is called. -/
namespace Go.Proofs.YtibhohpamnpkcaaGreatDoor
open Go.RowKit

theorem BookR.typed {w w' : World} {base m last : Nat} {v u : Value} {l : List Wt} (h : BookR w base m v u l last) (ht : Typed w w') : BookR w' base m v u l last := by
  obtain ⟨h1, h2, h3, h4⟩ := h
  refine ⟨h1, ht _ _ _ h2 (by decide) (by decide), h3.block fun g hg => ?_, h4.block fun g hg => ?_⟩
  · obtain ⟨c, hc⟩ := own_has h3 hg
    exact (ht _ _ _ hc (by decide) (by decide)).trans hc.symm
  · obtain ⟨c, hc⟩ := own_has h4 hg
    exact (ht _ _ _ hc (by decide) (by decide)).trans hc.symm
theorem BookAt.typedR {w w' : World} {base b last : Nat} {l : List Wt} (h : BookAt w base b l last) (ht : TypedR w w') : BookAt w' base b l last := by
  obtain ⟨v, h1, h2, h3, h4⟩ := h
  refine ⟨v, h1, ht _ _ _ h2 (by decide) (by decide) (by decide), ?_, h4⟩
  unfold OwnW at h3 ⊢
  refine own_block h3 fun g hg => ?_
  obtain ⟨c, hc⟩ := own_has h3 hg
  exact (ht _ _ _ hc (by decide) (by decide) (by decide)).trans hc.symm
/-- Both books hold the same. -/
def BothAt (w : World) (b m : Nat) (l : List Wt) (last : Nat) : Prop := BookAt w b b l last ∧ ∃ v u, BookR w b m v u l last
theorem BothAt.below {w w' : World} {b m last : Nat} {l : List Wt} (h : BothAt w b m l last) (hb : Below w.heap.size w w') : BothAt w' b m l last := by
  obtain ⟨h1, v, u, h2⟩ := h
  exact ⟨h1.below hb, v, u, h2.typed (Typed.of_below hb)⟩
end Go.Proofs.YtibhohpamnpkcaaGreatDoor
