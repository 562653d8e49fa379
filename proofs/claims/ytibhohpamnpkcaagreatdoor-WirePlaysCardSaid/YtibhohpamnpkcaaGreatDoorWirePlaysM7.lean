/- The reference's book: Take. -/
import Derived.Test.YtibhohpamnpkcaaGreatDoorWirePlaysM6

namespace Go.Proofs.YtibhohpamnpkcaaGreatDoor
open Go.RowKit

theorem OwnR.block {w w' : World} {base : Nat} {v : Value} {l : List Rq} (h : OwnR w base v l) (hb : ∀ g, v.ownBlock = some g → w'.heap[g]? = w.heap[g]?) : OwnR w' base v l := own_block h hb
theorem OwnU.block {w w' : World} {base : Nat} {v : Value} {l : List Int} (h : OwnU w base v l) (hb : ∀ g, v.ownBlock = some g → w'.heap[g]? = w.heap[g]?) : OwnU w' base v l := own_block h hb
theorem BookR.below {w w' : World} {base m last : Nat} {v u : Value} {l : List Wt} (h : BookR w base m v u l last) (hb : Below w.heap.size w w') : BookR w' base m v u l last :=
  ⟨h.1, (hb.block m (lt_of_block h.2.1)).trans h.2.1, h.2.2.1.block fun g hg => hb.block g (h.2.2.1.lt hg).2, h.2.2.2.block fun g hg => hb.block g (h.2.2.2.lt hg).2⟩
theorem BookR.shape {w : World} {base m last : Nat} {v u : Value} {l : List Wt} (h : BookR w base m v u l last) : (∃ a c, v = .slice a l.length c) ∧ ∃ a c, u = .slice a l.length c := by
  obtain ⟨a, c, e, _⟩ := own_shape h.2.2.1
  obtain ⟨a2, c2, e2, _⟩ := own_shape h.2.2.2
  rw [List.length_map] at e e2
  exact ⟨⟨a, c, e⟩, a2, c2, e2⟩
theorem rq_cells {w : World} {base : Nat} {v : Value} {l : List Wt} {i : Nat} {x : Wt} (h : OwnR w base v (l.map (·.r))) (hx : l[i]? = some x) : ∃ R cap, v = .slice (some ⟨R, 0, none⟩) l.length cap ∧ R < w.heap.size ∧
    w.cell? ⟨R, i * 6, none⟩ = some (.int .u64 x.r.id) ∧ w.cell? ⟨R, i * 6 + 1, none⟩ = some (.string x.r.app) ∧ w.cell? ⟨R, i * 6 + 2, none⟩ = some (.bool x.r.apple) ∧ w.cell? ⟨R, i * 6 + 3, none⟩ = some (.int .i64 x.r.kind) ∧
    w.cell? ⟨R, i * 6 + 4, none⟩ = some (.string x.r.text) ∧ w.cell? ⟨R, i * 6 + 5, none⟩ = some (.string x.r.url) := by
  have hx2 : (l.map (·.r))[i]? = some x.r := by rw [List.getElem?_map, hx]; rfl
  have hne : l.map (·.r) ≠ [] := fun e => by rw [e] at hx2; simp at hx2
  obtain ⟨R, cap, e, _, _, _, hR, hc⟩ := h.row hne
  rw [List.length_map] at e
  exact ⟨R, cap, e, hR, hc _ _ (rqsV_at hx2 0 (by omega)), hc _ _ (rqsV_at hx2 1 (by omega)), hc _ _ (rqsV_at hx2 2 (by omega)), hc _ _ (rqsV_at hx2 3 (by omega)), hc _ _ (rqsV_at hx2 4 (by omega)), hc _ _ (rqsV_at hx2 5 (by omega))⟩
theorem u64_cell {w : World} {base : Nat} {u : Value} {l : List Wt} {i : Nat} {x : Wt} (h : OwnU w base u (l.map (·.since))) (hx : l[i]? = some x) : ∃ R cap, u = .slice (some ⟨R, 0, none⟩) l.length cap ∧ R < w.heap.size ∧ w.cell? ⟨R, i, none⟩ = some (.int .u64 x.since) := by
  have hx2 : (l.map (·.since))[i]? = some x.since := by rw [List.getElem?_map, hx]; rfl
  have hne : l.map (·.since) ≠ [] := fun e => by rw [e] at hx2; simp at hx2
  obtain ⟨R, cap, e, _, _, _, hR, hc⟩ := h.row hne
  rw [List.length_map] at e
  exact ⟨R, cap, e, hR, hc _ _ (by rw [List.getElem?_map, hx2]; rfl)⟩
theorem grown_trans' {a b c : World} {m : Nat} (h : a.grownBy b (some m)) (h2 : b.grownBy c (some m)) : a.grownBy c (some m) :=
  ⟨h2.os.trans h.os, h2.tape.trans h.tape, h2.output.trans h.output, Nat.le_trans h.size h2.size, fun k hk hne => (h2.block k (Nat.lt_of_lt_of_le hk h.size) hne).trans (h.block k hk hne)⟩
theorem BookR.setRow {w : World} {base m last g : Nat} {v u : Value} {l : List Wt} (h : BookR w base m v u l last) (hm : m ≠ g) (hv : v.ownBlock ≠ some g) (hu : u.ownBlock ≠ some g) (cs : Array Value) : BookR (w.setRow g cs) base m v u l last :=
  ⟨h.1, (setRow_other w g m cs hm).trans h.2.1, h.2.2.1.block fun k hk => setRow_other w g k cs (by rintro rfl; exact hv hk), h.2.2.2.block fun k hk => setRow_other w g k cs (by rintro rfl; exact hu hk)⟩
def RTakePost (m base last : Nat) (id : Int) (l : List Wt) (w : World) (e : Ending) (w' : World) : Prop := w.grownBy w' (some m) ∧ ((∃ (i : Nat) (x : Wt), l[i]? = some x ∧ x.r.id = id ∧ (∀ y ∈ l.take i, y.r.id ≠ id) ∧ e = .returned (.tuple #[rqV x.r, .bool true]) ∧ ∃ v u, BookR w' base m v u (l.take i ++ l.drop (i + 1)) last) ∨
  ((∀ y ∈ l, y.r.id ≠ id) ∧ e = .returned (.tuple #[rqV rq0, .bool false]) ∧ ∃ v u, BookR w' base m v u l last))
set_option maxHeartbeats 3200000 in
set_option maxRecDepth 100000 in
theorem ref26_Take (m base last : Nat) (v u : Value) (l : List Wt) (id : Int) (w : World) (h : BookR w base m v u l last) (hl : l.length ≤ 1000) :
    Calls Tryz.prog 13 #[.pointer (some ⟨m, 0, none⟩), .int .u64 id] w (RTakePost m base last id l w) := by
  have hal : Below w.heap.size w (w.alloc (.cells #[.int .u64 0, .string ⟨#[]⟩, .bool false, .int .i64 0, .string ⟨#[]⟩, .string ⟨#[]⟩] 35)) := (Below.refl _ _).alloc (Nat.le_refl _) _
  have hq := heap_alloc_new w (.cells #[.int .u64 0, .string ⟨#[]⟩, .bool false, .int .i64 0, .string ⟨#[]⟩, .string ⟨#[]⟩] 35)
  have hs1 : (w.alloc (.cells #[.int .u64 0, .string ⟨#[]⟩, .bool false, .int .i64 0, .string ⟨#[]⟩, .string ⟨#[]⟩] 35)).heap.size = w.heap.size + 1 := by simp
  have h1 := h.below hal
  obtain ⟨⟨va, vc, rfl⟩, ua, uc, rfl⟩ := h.shape
  have hmw := lt_of_block h.2.1
  have HVO := Lib.hid (fun (g : Nat) hg => (h.2.2.1.lt (k := g) hg).2)
  have HUO := Lib.hid (fun (g : Nat) hg => (h.2.2.2.lt (k := g) hg).2)
  have hm1 := h1.2.1
  have c0 : (w.alloc (.cells #[.int .u64 0, .string ⟨#[]⟩, .bool false, .int .i64 0, .string ⟨#[]⟩, .string ⟨#[]⟩] 35)).cell? ⟨m, 0, none⟩ = some (.slice va l.length vc) := (cell_of_row _ _ 0 _ _ _ hm1).trans rfl
  have H1 := Lib.hid h1
  clear h h1 hm1
  go_enter Tryz.func13, Tryz.ntmps13
  go_wp2_with fail
  generalize w.alloc (.cells #[.int .u64 0, .string ⟨#[]⟩, .bool false, .int .i64 0, .string ⟨#[]⟩, .string ⟨#[]⟩] 35) = w1 at *
  have hmw1 : m < w1.heap.size := by omega
  go_loopw [6] (fun x wr => ∃ i : Nat, i ≤ l.length ∧ x = .int .i64 i ∧ (∀ y ∈ l.take i, y.r.id ≠ id) ∧ w1 = wr) (fun x _ => l.length - (intOf x).toNat)
  case atStart => exact ⟨0, Nat.zero_le _, rfl, fun y hy => by simp at hy, by trivial⟩
  case round =>
    obtain ⟨i, hil, rfl, hall, rfl⟩ := hrel
    have HALL := Lib.hid hall
    clear hall
    by_cases hlt : i < l.length
    · have hiI : (i : Int) < (l.length : Int) := by omega
      obtain ⟨x, hx⟩ : ∃ x, l[i]? = some x := ⟨_, List.getElem?_eq_getElem hlt⟩
      obtain ⟨R, cap, e, hRw, r0, r1, r2, r3, r4, r5⟩ := rq_cells H1.out.2.2.1 hx
      injection e with e1 _ e3
      subst e1 e3
      have HX := Lib.hid hx
      obtain ⟨⟨x0, x1, x2, x3, x4, x5⟩, x6⟩ := x
      simp only at r0 r1 r2 r3 r4 r5
      clear hx
      by_cases hid : x0 = id
      · subst hid
        have hal2 : Below w1.heap.size w1 (w1.alloc (.cells #[.int .u64 x0, .string x1, .bool x2, .int .i64 x3, .string x4, .string x5] 35)) := (Below.refl _ _).alloc (Nat.le_refl _) _
        have hq2 := heap_alloc_new w1 (.cells #[.int .u64 x0, .string x1, .bool x2, .int .i64 x3, .string x4, .string x5] 35)
        have hs2 : (w1.alloc (.cells #[.int .u64 x0, .string x1, .bool x2, .int .i64 x3, .string x4, .string x5] 35)).heap.size = w1.heap.size + 1 := by simp
        have CD := Lib.hid (ref26_drop m base last i _ _ l _ (H1.out.below hal2) hlt hl)
        have hz2 := (hal2.block w.heap.size (by omega)).trans hq
        have hg12 : w.grownBy (w1.alloc (.cells #[.int .u64 x0, .string x1, .bool x2, .int .i64 x3, .string x4, .string x5] 35)) (some m) := below_grownBy (Bt hal hal2) _
        clear hq hal hal2
        go_wp2_with fail
        refine CD.out.mono ?_
        rintro e w3 ⟨rfl, hg3, v', u', hbk, hv3, hu3⟩
        have hz3 := (hg3.block w.heap.size (by omega) (fun e => by injection e; omega)).trans hz2
        have hq3 := (hg3.block w1.heap.size (by omega) (fun e => by injection e; omega)).trans hq2
        rw [hs1] at hq3
        have hg03 := grown_trans' hg12 hg3
        obtain ⟨m0, m1, m2, m3, m4, m5⟩ := rq_block (r := ⟨x0, x1, x2, x3, x4, x5⟩) hq3
        have hl3 := lt_of_block hq3
        have HF := Lib.hid (show w.grownBy (w3.setRow w.heap.size (rqC ⟨x0, x1, x2, x3, x4, x5⟩).toArray) (some m) from ⟨hg03.os, hg03.tape, hg03.output, by simpa using hg03.size, fun k hk hne => (setRow_other w3 w.heap.size k _ (by omega)).trans (hg03.block k hk hne)⟩)
        have HB := Lib.hid (hbk.setRow (show m ≠ w.heap.size by omega) (fun e => by have := hv3 _ e; omega) (fun e => by have := hu3 _ e; omega) (rqC ⟨x0, x1, x2, x3, x4, x5⟩).toArray)
        clear hg3 hbk hq3 hg03 hz2 hg12 hq2 CD c0 r0 r1 r2 r3 r4 r5
        go_wp2_with (refine wpList_store_rq (o := ⟨none, _, _, _, _, _⟩) rfl _ _ rfl w.heap.size ⟨x0, x1, x2, x3, x4, x5⟩ rq0 rfl rfl hz3 ?_)
        (try simp only [Exit.inBlock, Exit.then])
        refine bodyPost_ret (results_rq rfl rfl (setRow_heap w3 w.heap.size _ _ _ _ hz3)) rfl ?_
        exact ⟨HF.out, .inl ⟨i, _, HX.out, rfl, HALL.out, rfl, _, _, HB.out⟩⟩
      · have e0 : (x0 == id) = false := by rw [beq_eq_false_iff_ne]; exact hid
        have HA2 := Lib.hid (show ∀ y ∈ l.take (i + 1), y.r.id ≠ id from fun y hy => by
          rw [List.take_add_one, HX.out] at hy
          rcases List.mem_append.1 hy with h2 | h2
          · exact HALL.out y h2
          · simp at h2; rw [h2]; exact hid)
        clear hid HX HALL
        go_wp2_with fail
        go_roundw
        case rel => exact ⟨i + 1, by omega, by go_num, HA2.out, by trivial⟩
        case measure => simp [intOf]; omega
    · obtain rfl : i = l.length := by omega
      have HF := Lib.hid (show w.grownBy (w1.setRow w.heap.size (rqC rq0).toArray) (some m) from ⟨hal.os, hal.tape, hal.output, by simpa using hal.size, fun k hk hne => (setRow_other w1 w.heap.size k _ (by omega)).trans (hal.block k hk)⟩)
      have HB := Lib.hid (H1.out.setRow (show m ≠ w.heap.size by omega) (fun e => by have := HVO.out _ e; omega) (fun e => by have := HUO.out _ e; omega) (rqC rq0).toArray)
      go_wp2_with (refine wpList_store_rq (o := ⟨none, _, _, _, _, _⟩) rfl _ _ rfl w.heap.size rq0 rq0 rfl rfl hq ?_)
      (try simp only [Exit.inBlock, Exit.then])
      refine bodyPost_ret (results_rq rfl rfl (setRow_heap w1 w.heap.size _ _ _ _ hq)) rfl ?_
      exact ⟨HF.out, .inr ⟨by have := HALL.out; rwa [List.take_length] at this, rfl, _, _, HB.out⟩⟩
end Go.Proofs.YtibhohpamnpkcaaGreatDoor

/- The reference's book: Late. -/
namespace Go.Proofs.YtibhohpamnpkcaaGreatDoor
open Go.RowKit

/-- What the list is when p of its elements were seen. -/
def seenL (P : Wt → Bool) (l : List Wt) (p : Nat) : List Wt := ((l.take p).filter fun x => !P x) ++ l.drop p
def seenN (P : Wt → Bool) (l : List Wt) (p : Nat) : Nat := ((l.take p).filter fun x => !P x).length
theorem seen_zero (P : Wt → Bool) (l : List Wt) : seenL P l 0 = l ∧ seenN P l 0 = 0 := by unfold seenL seenN; simp
theorem seen_at {P : Wt → Bool} {l : List Wt} {p : Nat} : (seenL P l p)[seenN P l p]? = l[p]? := by
  unfold seenL seenN
  rw [List.getElem?_append_right (Nat.le_refl _), Nat.sub_self, List.getElem?_drop]
  rfl
theorem seen_len {P : Wt → Bool} {l : List Wt} {p : Nat} (hp : p ≤ l.length) : (seenL P l p).length = seenN P l p + (l.length - p) := by
  unfold seenL seenN; rw [List.length_append, List.length_drop]
theorem seen_keep {P : Wt → Bool} {l : List Wt} {p : Nat} {x : Wt} (hx : l[p]? = some x) (hP : P x = false) : seenL P l (p + 1) = seenL P l p ∧ seenN P l (p + 1) = seenN P l p + 1 ∧ (l.take (p + 1)).filter P = (l.take p).filter P := by
  obtain ⟨hp, hx'⟩ := List.getElem?_eq_some_iff.1 hx
  have hd : l.drop p = x :: l.drop (p + 1) := by rw [← hx']; exact List.drop_eq_getElem_cons hp
  unfold seenL seenN
  rw [List.take_add_one, hx, List.filter_append, List.filter_append, hd]
  simp [hP]
theorem seen_drop {P : Wt → Bool} {l : List Wt} {p : Nat} {x : Wt} (hx : l[p]? = some x) (hP : P x = true) : seenL P l (p + 1) = (seenL P l p).take (seenN P l p) ++ (seenL P l p).drop (seenN P l p + 1) ∧ seenN P l (p + 1) = seenN P l p ∧ (l.take (p + 1)).filter P = (l.take p).filter P ++ [x] := by
  obtain ⟨hp, hx'⟩ := List.getElem?_eq_some_iff.1 hx
  have hd : l.drop p = x :: l.drop (p + 1) := by rw [← hx']; exact List.drop_eq_getElem_cons hp
  have h1 : (l.take (p + 1)).filter (fun x => !P x) = (l.take p).filter (fun x => !P x) := by rw [List.take_add_one, hx, List.filter_append]; simp [hP]
  have h2 : (l.take (p + 1)).filter P = (l.take p).filter P ++ [x] := by rw [List.take_add_one, hx, List.filter_append]; simp [hP]
  refine ⟨?_, ?_, h2⟩
  · have key : ∀ F D : List Wt, F ++ D = (F ++ x :: D).take F.length ++ (F ++ x :: D).drop (F.length + 1) := fun F D => by
      rw [List.take_left, List.drop_append]
      simp
    unfold seenL seenN
    rw [h1, hd]
    exact key _ _
  · unfold seenN; rw [h1]
theorem seen_end (P : Wt → Bool) (l : List Wt) : seenL P l l.length = l.filter (fun x => !P x) ∧ (l.take l.length).filter P = l.filter P := by unfold seenL; simp
theorem BookR.blocks {w w' : World} {base m last : Nat} {v u : Value} {l : List Wt} (h : BookR w base m v u l last) (hb : ∀ k, k = m ∨ v.ownBlock = some k ∨ u.ownBlock = some k → w'.heap[k]? = w.heap[k]?) : BookR w' base m v u l last :=
  ⟨h.1, (hb m (.inl rfl)).trans h.2.1, h.2.2.1.block fun g hg => hb g (.inr (.inl hg)), h.2.2.2.block fun g hg => hb g (.inr (.inr hg))⟩
theorem own_has {w : World} {base n size g : Nat} {e : TypeId} {v : Value} {xs : List Value} (h : w.ownsRow base e size v n xs) (hg : v.ownBlock = some g) : ∃ c, w.heap[g]? = some (.cells c e (0, 0)) := by
  rcases h.2 with ⟨e0, _⟩ | ⟨k, cap, cur, e0, _, h4, _⟩
  · rw [e0] at hg; cases hg
  · rw [e0] at hg
    injection hg with hg
    subst hg
    exact ⟨cur, h4⟩
def RLatePost (m base last : Nat) (P : Wt → Bool) (l : List Wt) (w : World) (e : Ending) (w' : World) : Prop := ∃ v, e = .returned v ∧ OwnR w' w.heap.size v ((l.filter P).map (·.r)) ∧ w.grownBy w' (some m) ∧ ∃ v' u', BookR w' base m v' u' (l.filter fun x => !P x) last
set_option maxHeartbeats 6400000 in
set_option maxRecDepth 100000 in
theorem ref26_Late (m base last : Nat) (v u : Value) (l : List Wt) (now : Int) (w : World) (h : BookR w base m v u l last) (hl : l.length ≤ 1000) :
    Calls Tryz.prog 9 #[.pointer (some ⟨m, 0, none⟩), .int .u64 now] w (RLatePost m base last (lateB now) l w) := by
  have hal : Below w.heap.size w (w.alloc (.cells #[] 35)) := (Below.refl _ _).alloc (Nat.le_refl _) _
  have hE : OwnR (w.alloc (.cells #[] 35)) w.heap.size (.slice (some ⟨w.heap.size, 0, none⟩) 0 0) [] := own_lit0 w w.heap.size 6 35 (Nat.le_refl _)
  have h1 := h.below hal
  have hvo : v.ownBlock ≠ some w.heap.size := fun e => by have := (h.2.2.1.lt e).2; omega
  have hmw := lt_of_block h.2.1
  have hs1 : (w.alloc (.cells #[] 35)).heap.size = w.heap.size + 1 := by simp
  have hg1 : w.grownBy (w.alloc (.cells #[] 35)) (some m) := below_grownBy hal _
  have hz := seen_zero (lateB now) l
  have HE := Lib.hid hE
  have H1 := Lib.hid h1
  have HVO := Lib.hid hvo
  have HG1 := Lib.hid hg1
  have HS1 := Lib.hid hs1
  have HZ := Lib.hid hz
  clear hE h1 hvo hg1 hs1 hal hz h
  go_enter Tryz.func9, Tryz.ntmps9
  go_wp2_with fail
  go_loopg [5, 6] l.length (fun gk o x wr => ∃ (p : Nat) (v u : Value), gk = l.length - p ∧ p ≤ l.length ∧ x = .int .i64 (seenN (lateB now) l p : Int) ∧ OwnR wr w.heap.size o (((l.take p).filter (lateB now)).map (·.r)) ∧ BookR wr base m v u (seenL (lateB now) l p) last ∧ (∀ g, o.ownBlock = some g → v.ownBlock ≠ some g) ∧ w.grownBy wr (some m) ∧ w.heap.size < wr.heap.size)
  case atStart => exact ⟨0, v, u, by omega, Nat.zero_le _, by rw [HZ.out.2]; rfl, HE.out, by rw [HZ.out.1]; exact H1.out, fun g hg => by injection hg with hg; rw [← hg]; exact HVO.out, HG1.out, by rw [HS1.out]; omega⟩
  case round =>
    obtain ⟨p, v2, u2, hgk, hpl, rfl, hown, hbk, hvn, hgr, hsz⟩ := hrel
    subst hgk
    have HEND := Lib.hid (seen_end (lateB now) l)
    have hln := seen_len (P := lateB now) hpl
    obtain ⟨⟨va, vc, rfl⟩, ua, uc, rfl⟩ := hbk.shape
    have hmw2 := lt_of_block hbk.2.1
    have cm0 : wr.cell? ⟨m, 0, none⟩ = some (.slice va (seenL (lateB now) l p).length vc) := (cell_of_row _ _ 0 _ _ _ hbk.2.1).trans rfl
    have cm1 : wr.cell? ⟨m, 1, none⟩ = some (.slice ua (seenL (lateB now) l p).length uc) := (cell_of_row _ _ 1 _ _ _ hbk.2.1).trans rfl
    obtain ⟨oa, oc, eo, _⟩ := own_shape hown
    rw [List.length_map] at eo
    subst eo
    have hall : ((l.take p).filter (lateB now)).length ≤ 1000 := by
      have h1 := List.length_filter_le (lateB now) (l.take p)
      rw [List.length_take] at h1
      omega
    by_cases hlt : p < l.length
    · have hcond : ((seenN (lateB now) l p : Nat) : Int) < ((seenL (lateB now) l p).length : Int) := by omega
      obtain ⟨x, hx⟩ : ∃ x, l[p]? = some x := ⟨_, List.getElem?_eq_getElem hlt⟩
      have hxs : (seenL (lateB now) l p)[seenN (lateB now) l p]? = some x := by rw [seen_at]; exact hx
      obtain ⟨R, cap, e, hRw, r0, r1, r2, r3, r4, r5⟩ := rq_cells hbk.2.2.1 hxs
      injection e with e1 _ e3
      subst e1 e3
      obtain ⟨R2, cap2, e, hR2w, s0⟩ := u64_cell hbk.2.2.2 hxs
      injection e with e1 _ e3
      subst e1 e3
      have HX := Lib.hid hx
      have HBK := Lib.hid hbk
      have HOWN := Lib.hid hown
      have HVN := Lib.hid hvn
      have HGR := Lib.hid hgr
      have hnl : seenN (lateB now) l p < (seenL (lateB now) l p).length := by omega
      have hsl : (seenL (lateB now) l p).length ≤ 1000 := by
        have h1 : seenN (lateB now) l p ≤ p := by
          have h2 := List.length_filter_le (fun x => !lateB now x) (l.take p)
          rw [List.length_take] at h2
          unfold seenN
          omega
        omega
      have hkd := fun h => seen_keep (P := lateB now) hx h
      have hdd := fun h => seen_drop (P := lateB now) hx h
      have HKD := Lib.hid hkd
      have HDD := Lib.hid hdd
      obtain ⟨⟨x0, x1, x2, x3, x4, x5⟩, x6⟩ := x
      have hPd : lateB now ⟨⟨x0, x1, x2, x3, x4, x5⟩, x6⟩ = decide (120 ≤ IntKind.u64.wrap (now - x6)) := rfl
      have HPD := Lib.hid hPd
      simp only at r0 r1 r2 r3 r4 r5 s0
      clear hx hxs hbk hown hvn hgr hkd hdd hPd hln
      generalize hn9 : seenN (lateB now) l p = n9 at *
      generalize hl9 : seenL (lateB now) l p = l9 at *
      by_cases hP : 120 ≤ IntKind.u64.wrap (now - x6)
      · obtain ⟨d1, d2, d3⟩ := HDD.out (by rw [HPD.out]; exact decide_eq_true hP)
        have hal : Below wr.heap.size wr (wr.alloc (.cells #[.int .u64 x0, .string x1, .bool x2, .int .i64 x3, .string x4, .string x5] 35)) := (Below.refl _ _).alloc (Nat.le_refl _) _
        have hq := heap_alloc_new wr (.cells #[.int .u64 x0, .string x1, .bool x2, .int .i64 x3, .string x4, .string x5] 35)
        have hs1 : (wr.alloc (.cells #[.int .u64 x0, .string x1, .bool x2, .int .i64 x3, .string x4, .string x5] 35)).heap.size = wr.heap.size + 1 := by simp
        have hownA := HOWN.out.below hal
        have hla : (((l.take p).filter (lateB now)).map (·.r)).length ≤ 1000 := by rw [List.length_map]; exact hall
        have hlm : (((l.take p).filter (lateB now)).map (·.r)).length = ((l.take p).filter (lateB now)).length := List.length_map ..
        have hd3 : ((l.take (p + 1)).filter (lateB now)).map (·.r) = ((l.take p).filter (lateB now)).map (·.r) ++ [⟨x0, x1, x2, x3, x4, x5⟩] := by rw [d3, List.map_append]; rfl
        have HD1 := Lib.hid d1
        have HD2 := Lib.hid d2
        have HD3 := Lib.hid hd3
        have hbase : w.heap.size ≤ (wr.alloc (.cells #[.int .u64 x0, .string x1, .bool x2, .int .i64 x3, .string x4, .string x5] 35)).heap.size := by omega
        clear d1 d2 d3 hd3 hn9 hl9
        go_wp2_with (refine wpList_app_rq rfl (.tmp 25) (.tmp 33) rfl w.heap.size (.slice oa ((l.take p).filter (lateB now)).length oc) (((l.take p).filter (lateB now)).map (·.r)) rfl hownA wr.heap.size 1 ⟨x0, x1, x2, x3, x4, x5⟩ rfl hq hla hbase ?_; intro v4 w4 hown4 hg4; obtain ⟨a4, c4, rfl⟩ := hown4.shape)
        have hno : ∀ k, k = m ∨ (Value.slice (some ⟨R, 0, none⟩) l9.length vc).ownBlock = some k ∨ (Value.slice (some ⟨R2, 0, none⟩) l9.length uc).ownBlock = some k → some k ≠ (Value.slice oa ((l.take p).filter (lateB now)).length oc).ownBlock := fun k hk e => by
          rcases hk with rfl | hk | hk
          · exact absurd (own_typed HOWN.out e.symm HBK.out.2.1) (by decide)
          · exact HVN.out k e.symm hk
          · obtain ⟨c, hc⟩ := own_has HOWN.out e.symm
            exact absurd (own_typed HBK.out.2.2.2 hk hc) (by decide)
        have hbk4 : BookR w4 base m _ _ l9 last := (HBK.out.below hal).blocks fun k hk => hg4.block k (by
          rcases hk with h | h | h
          · rw [h]; omega
          · have := (HBK.out.2.2.1.lt h).2; omega
          · have := (HBK.out.2.2.2.lt h).2; omega) (hno k hk)
        have hw4 : w.grownBy w4 (some m) := ⟨hg4.os.trans (hal.os.trans HGR.out.os), hg4.tape.trans (hal.tape.trans HGR.out.tape), hg4.output.trans (hal.output.trans HGR.out.output), by have := hg4.size; omega, fun k hk hne => (hg4.block k (by omega) (fun e => by have := (HOWN.out.lt e.symm).1; omega)).trans ((hal.block k (by omega)).trans (HGR.out.block k hk hne))⟩
        have CD := Lib.hid (ref26_drop m base last n9 _ _ l9 w4 hbk4 hnl hsl)
        have HB4 := Lib.hid hbk4
        have HO4 := Lib.hid hown4
        have HW4 := Lib.hid hw4
        have hs4 := hg4.size
        clear hno hbk4 hown4 hw4 hownA hq cm0 cm1 r0 r1 r2 r3 r4 r5 s0
        refine CD.out.mono ?_
        rintro e w5 ⟨rfl, hg5, v5, u5, hbk5, hv5, hu5⟩
        have hown5 := HO4.out.block (w' := w5) fun g hg => hg5.block g (HO4.out.lt hg).2 (fun e => by
          injection e with e
          subst e
          exact absurd (own_typed HO4.out hg HB4.out.2.1) (by decide))
        have hvn5 : ∀ g, (Value.slice a4 (((l.take p).filter (lateB now)).map (·.r) ++ [(⟨x0, x1, x2, x3, x4, x5⟩ : Rq)]).length c4).ownBlock = some g → v5.ownBlock ≠ some g := fun g hg e => by
          have h1 := (HO4.out.lt hg).2
          have h2 := hv5 g e
          omega
        rw [List.length_append, List.length_map] at hvn5
        have hlen2 : (((l.take p).filter (lateB now)).map (·.r) ++ [(⟨x0, x1, x2, x3, x4, x5⟩ : Rq)]).length = ((l.take p).filter (lateB now)).length + 1 := by simp
        rw [hlen2] at hown5
        have HF5 := Lib.hid (grown_trans' HW4.out hg5)
        have HO5 := Lib.hid hown5
        have HB5 := Lib.hid hbk5
        have HV5 := Lib.hid hvn5
        have hs5 := hg5.size
        clear hg5 hown5 hbk5 hvn5 hv5 hu5 CD hlen2
        go_wp2_with fail
        go_roundg (l.length - (p + 1))
        case measure => omega
        case rel => exact ⟨p + 1, _, _, rfl, by omega, by rw [HD2.out], by rw [HD3.out]; exact HO5.out, by rw [HD1.out]; exact HB5.out, HV5.out, HF5.out, by omega⟩
      · obtain ⟨d1, d2, d3⟩ := HKD.out (by rw [HPD.out]; exact decide_eq_false hP)
        have hz1 : IntKind.i64.wrap ((n9 : Int) + 1) = ((n9 + 1 : Nat) : Int) := (IntWalk.i64_in _ (by omega)).trans (by omega)
        have HD1 := Lib.hid d1
        have HD2 := Lib.hid d2
        have HD3 := Lib.hid d3
        clear d1 d2 d3 hn9 hl9
        go_wp2_with fail
        go_roundg (l.length - (p + 1))
        case measure => omega
        case rel => exact ⟨p + 1, _, _, rfl, by omega, by rw [HD2.out]; go_num, by rw [HD3.out]; exact HOWN.out, by rw [HD1.out]; exact HBK.out, HVN.out, HGR.out, hsz⟩
    · obtain rfl : p = l.length := by omega
      have hcond : ¬ ((seenN (lateB now) l l.length : Nat) : Int) < ((seenL (lateB now) l l.length).length : Int) := by omega
      rw [HEND.out.1] at hbk
      rw [HEND.out.2] at hown
      have HO := Lib.hid hown
      have HB := Lib.hid hbk
      clear hown hbk
      go_wp2_with fail
      go_ret
      exact ⟨_, rfl, HO.out, hgr, _, _, HB.out⟩
end Go.Proofs.YtibhohpamnpkcaaGreatDoor
