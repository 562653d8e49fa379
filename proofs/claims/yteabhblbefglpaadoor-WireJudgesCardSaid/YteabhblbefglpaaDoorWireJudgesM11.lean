/- wire.Judge. -/
import Derived.Test.YteabhblbefglpaaDoorWireJudgesM10
import Derived.Test.YteabhblbefglpaaDoorWireJudgesM9
import Derived.LaidHandle
import Derived.LaidLaws
import Derived.Stop.Joined
import Derived.Lib.LaidU8T
import Derived.Shelf.Unicode.DecodeSlow

namespace Go.Proofs.YteabhblbefglpaaDoor
open Go.RowKit

/-- The kind of the error of a response. -/
def judgeN (apple : Bool) (st : Int) (redir tmo : Bool) (ty : ByteArray) (n : Nat) : Nat :=
  if tmo = true then 43 else if redir = true ∨ (300 ≤ st ∧ st ≤ 399) then 41 else if st ≠ 200 then 40 else
  if (apple = false ∨ 0 < ty.size) ∧ (acceptM ty).1 ≠ 0 then 42 else if (if apple = true then 131072 else 1048576) < n then 14 else 0
theorem judge_tmo {apple : Bool} {st : Int} {redir : Bool} {ty : ByteArray} {n : Nat} : judgeN apple st redir true ty n = 43 := by simp [judgeN]
theorem judge_redir {apple : Bool} {st : Int} {ty : ByteArray} {n : Nat} : judgeN apple st true false ty n = 41 := by simp [judgeN]
theorem judge_3xx {apple : Bool} {st : Int} {ty : ByteArray} {n : Nat} (h : 300 ≤ st) (h2 : st ≤ 399) : judgeN apple st false false ty n = 41 := by
  unfold judgeN; rw [if_neg (by decide), if_pos (.inr ⟨h, h2⟩)]
theorem judge_status {apple : Bool} {st : Int} {ty : ByteArray} {n : Nat} (h : ¬ (300 ≤ st ∧ st ≤ 399)) (h2 : st ≠ 200) : judgeN apple st false false ty n = 40 := by
  unfold judgeN; rw [if_neg (by decide), if_neg (by simp; exact fun a => by omega), if_pos h2]
theorem judge_200 {apple : Bool} {ty : ByteArray} {n : Nat} : judgeN apple 200 false false ty n = if (apple = false ∨ 0 < ty.size) ∧ (acceptM ty).1 ≠ 0 then 42 else if (if apple = true then 131072 else 1048576) < n then 14 else 0 := by
  unfold judgeN; rw [if_neg (by decide), if_neg (by decide), if_neg (by decide)]
theorem judge_acc {apple : Bool} {ty : ByteArray} {n : Nat} (h : apple = false ∨ 0 < ty.size) (k : Nat) (hk : (acceptM ty).1 = k) (h2 : k ≠ 0) : judgeN apple 200 false false ty n = 42 := by
  subst hk; rw [judge_200, if_pos ⟨h, h2⟩]
theorem judge_fit {apple : Bool} {ty : ByteArray} {n : Nat} (h : ¬ (apple = false ∨ 0 < ty.size) ∨ (acceptM ty).1 = 0) (h2 : ¬ (if apple = true then 131072 else 1048576) < n) : judgeN apple 200 false false ty n = 0 := by
  rw [judge_200, if_neg, if_neg h2]
  rintro ⟨h3, h4⟩
  rcases h with h | h
  · exact h h3
  · exact h4 h
theorem judge_long {apple : Bool} {ty : ByteArray} {n : Nat} (h : ¬ (apple = false ∨ 0 < ty.size) ∨ (acceptM ty).1 = 0) (h2 : (if apple = true then 131072 else 1048576) < n) : judgeN apple 200 false false ty n = 14 := by
  rw [judge_200, if_neg, if_pos h2]
  rintro ⟨h3, h4⟩
  rcases h with h | h
  · exact h h3
  · exact h4 h
def JudgePost (apple : Bool) (st : Int) (redir tmo : Bool) (ty : ByteArray) (n : Nat) (w : World) (e : Ending) (w' : World) : Prop := Below w.heap.size w w' ∧ ∃ v, e = .returned v ∧ IsErr w' v (judgeN apple st redir tmo ty n) 0
set_option maxHeartbeats 6400000 in
set_option maxRecDepth 100000 in
theorem wire_Judge (apple : Bool) (id st : Int) (redir tmo : Bool) (ty ca : ByteArray) (pa : Option Addr) (n c : Nat) (w : World) :
    Calls Tryd.prog 14 #[.bool apple, .agg #[.int .u64 id, .int .i64 st, .bool redir, .bool tmo, .string ty, .string ca, .slice pa n c]] w (JudgePost apple st redir tmo ty n w) := by
  cases tmo with
  | true =>
    have HJ := Lib.hid (@judge_tmo apple st redir ty n)
    have hst : Below w.heap.size w (w.alloc (.cells #[.int .u64 id, .int .i64 st, .bool redir, .bool true, .string ty, .string ca, .slice pa n c] 25)) := (Below.refl _ _).alloc (Nat.le_refl _) _
    cases apple
    · go_enter Tryd.func14, Tryd.ntmps14
      go_wp2_with fail
      refine (api_Fail' 43 0 _).mono ?_
      rintro e w3 ⟨v, rfl, hv, hb3⟩
      have hbx := Bt hst hb3
      go_wp2_with fail
      go_ret
      exact ⟨hbx, v, rfl, by rw [HJ.out]; exact .inr ⟨by decide, _, hv⟩⟩
    · go_enter Tryd.func14, Tryd.ntmps14
      go_wp2_with fail
      refine (api_Fail' 43 0 _).mono ?_
      rintro e w3 ⟨v, rfl, hv, hb3⟩
      have hbx := Bt hst hb3
      go_wp2_with fail
      go_ret
      exact ⟨hbx, v, rfl, by rw [HJ.out]; exact .inr ⟨by decide, _, hv⟩⟩
  | false =>
    cases redir with
    | true =>
      have HJ := Lib.hid (@judge_redir apple st ty n)
      have hst : Below w.heap.size w (w.alloc (.cells #[.int .u64 id, .int .i64 st, .bool true, .bool false, .string ty, .string ca, .slice pa n c] 25)) := (Below.refl _ _).alloc (Nat.le_refl _) _
      cases apple
      · go_enter Tryd.func14, Tryd.ntmps14
        go_wp2_with fail
        refine (api_Fail' 41 0 _).mono ?_
        rintro e w3 ⟨v, rfl, hv, hb3⟩
        have hbx := Bt hst hb3
        go_wp2_with fail
        go_ret
        exact ⟨hbx, v, rfl, by rw [HJ.out]; exact .inr ⟨by decide, _, hv⟩⟩
      · go_enter Tryd.func14, Tryd.ntmps14
        go_wp2_with fail
        refine (api_Fail' 41 0 _).mono ?_
        rintro e w3 ⟨v, rfl, hv, hb3⟩
        have hbx := Bt hst hb3
        go_wp2_with fail
        go_ret
        exact ⟨hbx, v, rfl, by rw [HJ.out]; exact .inr ⟨by decide, _, hv⟩⟩
    | false =>
      by_cases h3 : 300 ≤ st ∧ st ≤ 399
      · have HJ := Lib.hid (@judge_3xx apple st ty n h3.1 h3.2)
        obtain ⟨h31, h32⟩ := h3
        have h33 : st < 400 := by omega
        have hst : Below w.heap.size w (w.alloc (.cells #[.int .u64 id, .int .i64 st, .bool false, .bool false, .string ty, .string ca, .slice pa n c] 25)) := (Below.refl _ _).alloc (Nat.le_refl _) _
        cases apple
        · go_enter Tryd.func14, Tryd.ntmps14
          go_wp2_with fail
          refine (api_Fail' 41 0 _).mono ?_
          rintro e w3 ⟨v, rfl, hv, hb3⟩
          have hbx := Bt hst hb3
          go_wp2_with fail
          go_ret
          exact ⟨hbx, v, rfl, by rw [HJ.out]; exact .inr ⟨by decide, _, hv⟩⟩
        · go_enter Tryd.func14, Tryd.ntmps14
          go_wp2_with fail
          refine (api_Fail' 41 0 _).mono ?_
          rintro e w3 ⟨v, rfl, hv, hb3⟩
          have hbx := Bt hst hb3
          go_wp2_with fail
          go_ret
          exact ⟨hbx, v, rfl, by rw [HJ.out]; exact .inr ⟨by decide, _, hv⟩⟩
      · by_cases h2 : st = 200
        · subst h2
          clear h3
          have hst : Below w.heap.size w (w.alloc (.cells #[.int .u64 id, .int .i64 200, .bool false, .bool false, .string ty, .string ca, .slice pa n c] 25)) := (Below.refl _ _).alloc (Nat.le_refl _) _
          cases apple with
          | false =>
            have htk : (if false = true then 131072 else 1048576) = 1048576 := rfl
            have hh := heap_alloc_new w (.cells #[.int .u64 id, .int .i64 200, .bool false, .bool false, .string ty, .string ca, .slice pa n c] 25)
            have cA := Lib.hid (fun W => media_Accept ty W)
            go_enter Tryd.func14, Tryd.ntmps14
            go_wp2_with fail
            refine (cA.out _).mono ?_
            rintro e w2 ⟨hb2, v, rfl, hv⟩
            have hb12 := Bt hst hb2
            have hh2 := (hb2.block w.heap.size (by simp)).trans hh
            have c6 : w2.cell? ⟨w.heap.size, 6, none⟩ = some (.slice pa n c) := by rw [cell_of_row w2 w.heap.size 6 _ _ _ hh2]; rfl
            have hj := fun k h => @judge_acc false ty n (.inl rfl) k h
            have hjz := fun h => @judge_fit false ty n (Or.inr h)
            have hjl := fun h => @judge_long false ty n (Or.inr h)
            clear hh hst hb2 hh2 cA
            generalize acceptM ty = ac at *
            by_cases ha : ac.1 = 0
            · obtain ⟨_, rfl⟩ := hv.zero ha
              by_cases hn : 1048576 < n
              · have HJ := Lib.hid (hjl ha (by simpa using hn))
                have hnI : (n : Int) > 1048576 := by omega
                clear hn
                go_wp2_with fail
                refine (api_Fail' 14 0 _).mono ?_
                rintro e w3 ⟨v, rfl, hv, hb3⟩
                have hbx := Bt hb12 hb3
                go_wp2_with fail
                go_ret
                exact ⟨hbx, v, rfl, by rw [HJ.out]; exact .inr ⟨by decide, _, hv⟩⟩
              · have HJ := Lib.hid (hjz ha (by simpa using hn))
                have hnI : ¬ (n : Int) > 1048576 := by omega
                clear hn
                go_wp2_with fail
                go_ret
                exact ⟨hb12, _, rfl, by rw [HJ.out]; exact .inl ⟨rfl, rfl⟩⟩
            · obtain ⟨p, rfl⟩ := hv.iface ha
              have HJ := Lib.hid (hj ac.1 rfl ha)
              have h42 : ac.1 = 42 := by
                rcases hv with ⟨rfl, _⟩ | ⟨rfl, _⟩ | ⟨h, _⟩
                · exact absurd rfl ha
                · rfl
                · exact h
              clear hj hjz hjl hv ha h42
              go_wp2_with fail
              refine (wrap_fault 42 0 _ _ ⟨_, _, rfl⟩).mono ?_
              rintro e w3 ⟨u, rfl, hu, hb3⟩
              have hbx := Bt hb12 hb3
              go_wp2_with fail
              go_ret
              exact ⟨hbx, u, rfl, by rw [HJ.out]; exact .inr ⟨by decide, _, hu⟩⟩
          | true =>
            have htk : (if true = true then 131072 else 1048576) = 131072 := rfl
            by_cases hz : 0 < ty.size
            · have e0 := isEmpty_no hz
              have hh := heap_alloc_new w (.cells #[.int .u64 id, .int .i64 200, .bool false, .bool false, .string ty, .string ca, .slice pa n c] 25)
              have cA := Lib.hid (fun W => media_Accept ty W)
              go_enter Tryd.func14, Tryd.ntmps14
              go_wp2_with fail
              refine (cA.out _).mono ?_
              rintro e w2 ⟨hb2, v, rfl, hv⟩
              have hb12 := Bt hst hb2
              have hh2 := (hb2.block w.heap.size (by simp)).trans hh
              have c6 : w2.cell? ⟨w.heap.size, 6, none⟩ = some (.slice pa n c) := by rw [cell_of_row w2 w.heap.size 6 _ _ _ hh2]; rfl
              have hj := fun k h => @judge_acc true ty n (.inr hz) k h
              have hjz := fun h => @judge_fit true ty n (Or.inr h)
              have hjl := fun h => @judge_long true ty n (Or.inr h)
              clear hh hst hb2 hh2 cA
              generalize acceptM ty = ac at *
              by_cases ha : ac.1 = 0
              · obtain ⟨_, rfl⟩ := hv.zero ha
                by_cases hn : 131072 < n
                · have HJ := Lib.hid (hjl ha (by simpa using hn))
                  have hnI : (n : Int) > 131072 := by omega
                  clear hn
                  go_wp2_with fail
                  refine (api_Fail' 14 0 _).mono ?_
                  rintro e w3 ⟨v, rfl, hv, hb3⟩
                  have hbx := Bt hb12 hb3
                  go_wp2_with fail
                  go_ret
                  exact ⟨hbx, v, rfl, by rw [HJ.out]; exact .inr ⟨by decide, _, hv⟩⟩
                · have HJ := Lib.hid (hjz ha (by simpa using hn))
                  have hnI : ¬ (n : Int) > 131072 := by omega
                  clear hn
                  go_wp2_with fail
                  go_ret
                  exact ⟨hb12, _, rfl, by rw [HJ.out]; exact .inl ⟨rfl, rfl⟩⟩
              · obtain ⟨p, rfl⟩ := hv.iface ha
                have HJ := Lib.hid (hj ac.1 rfl ha)
                have h42 : ac.1 = 42 := by
                  rcases hv with ⟨rfl, _⟩ | ⟨rfl, _⟩ | ⟨h, _⟩
                  · exact absurd rfl ha
                  · rfl
                  · exact h
                clear hj hjz hjl hv ha h42
                go_wp2_with fail
                refine (wrap_fault 42 0 _ _ ⟨_, _, rfl⟩).mono ?_
                rintro e w3 ⟨u, rfl, hu, hb3⟩
                have hbx := Bt hb12 hb3
                go_wp2_with fail
                go_ret
                exact ⟨hbx, u, rfl, by rw [HJ.out]; exact .inr ⟨by decide, _, hu⟩⟩
            · have e0 := isEmpty_yes (show ty.size = 0 by omega)
              have e1 : ty.toList = [] := by simpa using e0
              have hnz : ¬ (true = false ∨ 0 < ty.size) := fun h => by rcases h with h | h; cases h; exact hz h
              have hjz := @judge_fit true ty n (Or.inl hnz)
              have hjl := @judge_long true ty n (Or.inl hnz)
              clear hnz hz
              by_cases hn : 131072 < n
              · have HJ := Lib.hid (hjl (by simpa using hn))
                have hnI : (n : Int) > 131072 := by omega
                clear hn hjz hjl
                go_enter Tryd.func14, Tryd.ntmps14
                go_wp2_with fail
                refine (api_Fail' 14 0 _).mono ?_
                rintro e w3 ⟨v, rfl, hv, hb3⟩
                have hbx := Bt hst hb3
                go_wp2_with fail
                go_ret
                exact ⟨hbx, v, rfl, by rw [HJ.out]; exact .inr ⟨by decide, _, hv⟩⟩
              · have HJ := Lib.hid (hjz (by simpa using hn))
                have hnI : ¬ (n : Int) > 131072 := by omega
                clear hn hjz hjl
                go_enter Tryd.func14, Tryd.ntmps14
                go_wp2_with fail
                go_ret
                exact ⟨hst, _, rfl, by rw [HJ.out]; exact .inl ⟨rfl, rfl⟩⟩
        · have HJ := Lib.hid (@judge_status apple st ty n h3 h2)
          have h2I : (st != 200) = true := by simpa using h2
          have hst : Below w.heap.size w (w.alloc (.cells #[.int .u64 id, .int .i64 st, .bool false, .bool false, .string ty, .string ca, .slice pa n c] 25)) := (Below.refl _ _).alloc (Nat.le_refl _) _
          by_cases h4 : 300 ≤ st
          · have h5 : ¬ st < 400 := by omega
            clear h3 h2
            cases apple
            · go_enter Tryd.func14, Tryd.ntmps14
              go_wp2_with fail
              refine (api_Fail' 40 0 _).mono ?_
              rintro e w3 ⟨v, rfl, hv, hb3⟩
              have hbx := Bt hst hb3
              go_wp2_with fail
              go_ret
              exact ⟨hbx, v, rfl, by rw [HJ.out]; exact .inr ⟨by decide, _, hv⟩⟩
            · go_enter Tryd.func14, Tryd.ntmps14
              go_wp2_with fail
              refine (api_Fail' 40 0 _).mono ?_
              rintro e w3 ⟨v, rfl, hv, hb3⟩
              have hbx := Bt hst hb3
              go_wp2_with fail
              go_ret
              exact ⟨hbx, v, rfl, by rw [HJ.out]; exact .inr ⟨by decide, _, hv⟩⟩
          · clear h3 h2
            cases apple
            · go_enter Tryd.func14, Tryd.ntmps14
              go_wp2_with fail
              refine (api_Fail' 40 0 _).mono ?_
              rintro e w3 ⟨v, rfl, hv, hb3⟩
              have hbx := Bt hst hb3
              go_wp2_with fail
              go_ret
              exact ⟨hbx, v, rfl, by rw [HJ.out]; exact .inr ⟨by decide, _, hv⟩⟩
            · go_enter Tryd.func14, Tryd.ntmps14
              go_wp2_with fail
              refine (api_Fail' 40 0 _).mono ?_
              rintro e w3 ⟨v, rfl, hv, hb3⟩
              have hbx := Bt hst hb3
              go_wp2_with fail
              go_ret
              exact ⟨hbx, v, rfl, by rw [HJ.out]; exact .inr ⟨by decide, _, hv⟩⟩
end Go.Proofs.YteabhblbefglpaaDoor

/- What a row's list of package variables gives: errors.errorType, the tables of unicode/utf8. A world that holds them. -/
namespace Go.Proofs.YteabhblbefglpaaDoor
open Go.ChangeShapes Go.WideShapes Go.RowKit

/-- The tables of unicode/utf8, as their initialisers lay them. -/
def Utf8Laid (w : World) : Prop := Lib.Utf8Tabs 2 3 w
theorem Utf8Laid.below {w w' : World} (h : Utf8Laid w) (hb : Below w.heap.size w w') : Utf8Laid w' :=
  ⟨fun c hc => (hb.cell (World.block_lt_of_cell? w _ (h.1 c hc))).trans (h.1 c hc),
    fun i hi => ⟨(hb.cell (World.block_lt_of_cell? w _ (h.2 i hi).1)).trans (h.2 i hi).1, (hb.cell (World.block_lt_of_cell? w _ (h.2 i hi).2)).trans (h.2 i hi).2⟩⟩
theorem Utf8Laid.drewN {w : World} (h : Utf8Laid w) (n : Nat) : Utf8Laid (w.drewN n) := h

def u8ren : Go.Shelf.Ren := ⟨fun n => n, fun | 5 => 5 | 119 => 232 | 138 => 234 | 139 => 235 | n => n, fun | 3 => 2 | 4 => 3 | n => n⟩
theorem u8types : U8Types Tryd.prog u8ren := { t5 := Tryd.underlying5, t119 := Tryd.underlying232, t138 := Tryd.underlying234, t139 := Tryd.underlying235 }
theorem u8extra : U8Extra Tryd.prog u8ren := { n3 := by kernel_rfl, n4 := by kernel_rfl, y3 := by kernel_rfl, y4 := by kernel_rfl, c5 := by kernel_rfl, c119 := by kernel_rfl, c138 := by kernel_rfl }
theorem u8first : Lib.firstData = Rows.laid_unicode_utf8_first := by kernel_rfl
theorem u8accept : Lib.acceptData = Rows.laid_unicode_utf8_acceptRanges := by kernel_rfl
noncomputable def laidWorld (os : Os) : World :=
  let w0 := World.holding Tryd.prog os ⟨#[], #[], []⟩
  let h1 := w0.heap.modify 0 fun
      | .cells _ t frozen => .cells #[.iface 169 (.agg #[.pointer (some ⟨4, 28, none⟩)])] t frozen
      | o => o
  let h2 := h1.modify 2 fun
      | .cells _ t frozen => .cells (Lib.firstTab.map (Value.int .u8)).toArray t frozen
      | o => o
  let h3 := h2.modify 3 fun
      | .cells _ t frozen => .cells ((List.range 16).flatMap fun i => [Value.int .u8 (Lib.accLo i : Nat), Value.int .u8 (Lib.accHi i : Nat)]).toArray t frozen
      | o => o
  { w0 with heap := h3 }
end Go.Proofs.YteabhblbefglpaaDoor
