/- wire.Judge. -/
import Derived.Test.YtibhohpamnpkcaaGreatDoorWirePlaysM18
import Derived.Test.YtibhohpamnpkcaaGreatDoorWirePlaysM17
import Derived.Laws.Tables
import Derived.LaidHandle
import Derived.LaidLaws
import Derived.Stop.Joined
import Derived.Lib.LaidU8T
import Derived.Shelf.Unicode.DecodeSlow
import Derived.Test.YtibhohpamnpkcaaGreatDoorWirePlaysM1

namespace Go.Proofs.YtibhohpamnpkcaaGreatDoor
open Go.RowKit

/-- The kind of the error of a response. -/
def judgeN (apple : Bool) (st : Int) (redir tmo : Bool) (ty : ByteArray) (n : Nat) : Nat :=
  if tmo = true then 43 else if redir = true ∨ (300 ≤ st ∧ st ≤ 399) then 41 else if st ≠ 200 then 40 else
  if (apple = false ∨ 0 < ty.size) ∧ (acceptM ty).1 ≠ 0 then 42 else if (if apple = true then 131072 else 1048576) < n then 14 else 0
theorem judge_tmo {apple : Bool} {st : Int} {redir : Bool} {ty : ByteArray} {n : Nat} : judgeN apple st redir true ty n = 43 := by simp [judgeN]
theorem judge_redir {apple : Bool} {st : Int} {ty : ByteArray} {n : Nat} : judgeN apple st true false ty n = 41 := by simp [judgeN]
theorem judge_3xx {apple : Bool} {st : Int} {ty : ByteArray} {n : Nat} (h : 300 ≤ st) (h2 : st ≤ 399) : judgeN apple st false false ty n = 41 := by
  unfold judgeN; rw [if_neg (by decide), if_pos (.inr ⟨h, h2⟩)]
theorem judge_status {apple : Bool} {st : Int} {ty : ByteArray} {n : Nat} (h : ¬ (300 ≤ st ∧ st ≤ 399)) (h2 : st ≠ 200) : judgeN apple st false false ty n = 40 := by
  unfold judgeN; rw [if_neg (by decide), if_neg (by simp; exact fun a => by omega), if_pos h2]
theorem judge_200 {apple : Bool} {ty : ByteArray} {n : Nat} : judgeN apple 200 false false ty n = if (apple = false ∨ 0 < ty.size) ∧ (acceptM ty).1 ≠ 0 then 42 else if (if apple = true then 131072 else 1048576) < n then 14 else 0 := by
  unfold judgeN; rw [if_neg (by decide), if_neg (by decide), if_neg (by decide)]
theorem judge_acc {apple : Bool} {ty : ByteArray} {n : Nat} (h : apple = false ∨ 0 < ty.size) (k : Nat) (hk : (acceptM ty).1 = k) (h2 : k ≠ 0) : judgeN apple 200 false false ty n = 42 := by
  subst hk; rw [judge_200, if_pos ⟨h, h2⟩]
theorem judge_fit {apple : Bool} {ty : ByteArray} {n : Nat} (h : ¬ (apple = false ∨ 0 < ty.size) ∨ (acceptM ty).1 = 0) (h2 : ¬ (if apple = true then 131072 else 1048576) < n) : judgeN apple 200 false false ty n = 0 := by
  rw [judge_200, if_neg, if_neg h2]
  rintro ⟨h3, h4⟩
  rcases h with h | h
  · exact h h3
  · exact h4 h
theorem judge_long {apple : Bool} {ty : ByteArray} {n : Nat} (h : ¬ (apple = false ∨ 0 < ty.size) ∨ (acceptM ty).1 = 0) (h2 : (if apple = true then 131072 else 1048576) < n) : judgeN apple 200 false false ty n = 14 := by
  rw [judge_200, if_neg, if_pos h2]
  rintro ⟨h3, h4⟩
  rcases h with h | h
  · exact h h3
  · exact h4 h
def JudgePost (apple : Bool) (st : Int) (redir tmo : Bool) (ty : ByteArray) (n : Nat) (w : World) (e : Ending) (w' : World) : Prop := Below w.heap.size w w' ∧ ∃ v, e = .returned v ∧ IsErr w' v (judgeN apple st redir tmo ty n) 0
set_option maxHeartbeats 6400000 in
set_option maxRecDepth 100000 in
theorem wire_Judge (apple : Bool) (id st : Int) (redir tmo : Bool) (ty ca : ByteArray) (pa : Option Addr) (n c : Nat) (w : World) :
    Calls Tryz.prog 27 #[.bool apple, .agg #[.int .u64 id, .int .i64 st, .bool redir, .bool tmo, .string ty, .string ca, .slice pa n c]] w (JudgePost apple st redir tmo ty n w) := by
  cases tmo with
  | true =>
    have HJ := Lib.hid (@judge_tmo apple st redir ty n)
    have hst : Below w.heap.size w (w.alloc (.cells #[.int .u64 id, .int .i64 st, .bool redir, .bool true, .string ty, .string ca, .slice pa n c] 76)) := (Below.refl _ _).alloc (Nat.le_refl _) _
    cases apple
    · go_enter Tryz.func27, Tryz.ntmps27
      go_wp2_with fail
      refine (api_Fail' 43 0 _).mono ?_
      rintro e w3 ⟨v, rfl, hv, hb3⟩
      have hbx := Bt hst hb3
      go_wp2_with fail
      go_ret
      exact ⟨hbx, v, rfl, by rw [HJ.out]; exact .inr ⟨by decide, _, hv⟩⟩
    · go_enter Tryz.func27, Tryz.ntmps27
      go_wp2_with fail
      refine (api_Fail' 43 0 _).mono ?_
      rintro e w3 ⟨v, rfl, hv, hb3⟩
      have hbx := Bt hst hb3
      go_wp2_with fail
      go_ret
      exact ⟨hbx, v, rfl, by rw [HJ.out]; exact .inr ⟨by decide, _, hv⟩⟩
  | false =>
    cases redir with
    | true =>
      have HJ := Lib.hid (@judge_redir apple st ty n)
      have hst : Below w.heap.size w (w.alloc (.cells #[.int .u64 id, .int .i64 st, .bool true, .bool false, .string ty, .string ca, .slice pa n c] 76)) := (Below.refl _ _).alloc (Nat.le_refl _) _
      cases apple
      · go_enter Tryz.func27, Tryz.ntmps27
        go_wp2_with fail
        refine (api_Fail' 41 0 _).mono ?_
        rintro e w3 ⟨v, rfl, hv, hb3⟩
        have hbx := Bt hst hb3
        go_wp2_with fail
        go_ret
        exact ⟨hbx, v, rfl, by rw [HJ.out]; exact .inr ⟨by decide, _, hv⟩⟩
      · go_enter Tryz.func27, Tryz.ntmps27
        go_wp2_with fail
        refine (api_Fail' 41 0 _).mono ?_
        rintro e w3 ⟨v, rfl, hv, hb3⟩
        have hbx := Bt hst hb3
        go_wp2_with fail
        go_ret
        exact ⟨hbx, v, rfl, by rw [HJ.out]; exact .inr ⟨by decide, _, hv⟩⟩
    | false =>
      by_cases h3 : 300 ≤ st ∧ st ≤ 399
      · have HJ := Lib.hid (@judge_3xx apple st ty n h3.1 h3.2)
        obtain ⟨h31, h32⟩ := h3
        have h33 : st < 400 := by omega
        have hst : Below w.heap.size w (w.alloc (.cells #[.int .u64 id, .int .i64 st, .bool false, .bool false, .string ty, .string ca, .slice pa n c] 76)) := (Below.refl _ _).alloc (Nat.le_refl _) _
        cases apple
        · go_enter Tryz.func27, Tryz.ntmps27
          go_wp2_with fail
          refine (api_Fail' 41 0 _).mono ?_
          rintro e w3 ⟨v, rfl, hv, hb3⟩
          have hbx := Bt hst hb3
          go_wp2_with fail
          go_ret
          exact ⟨hbx, v, rfl, by rw [HJ.out]; exact .inr ⟨by decide, _, hv⟩⟩
        · go_enter Tryz.func27, Tryz.ntmps27
          go_wp2_with fail
          refine (api_Fail' 41 0 _).mono ?_
          rintro e w3 ⟨v, rfl, hv, hb3⟩
          have hbx := Bt hst hb3
          go_wp2_with fail
          go_ret
          exact ⟨hbx, v, rfl, by rw [HJ.out]; exact .inr ⟨by decide, _, hv⟩⟩
      · by_cases h2 : st = 200
        · subst h2
          clear h3
          have hst : Below w.heap.size w (w.alloc (.cells #[.int .u64 id, .int .i64 200, .bool false, .bool false, .string ty, .string ca, .slice pa n c] 76)) := (Below.refl _ _).alloc (Nat.le_refl _) _
          cases apple with
          | false =>
            have htk : (if false = true then 131072 else 1048576) = 1048576 := rfl
            have hh := heap_alloc_new w (.cells #[.int .u64 id, .int .i64 200, .bool false, .bool false, .string ty, .string ca, .slice pa n c] 76)
            have cA := Lib.hid (fun W => media_Accept ty W)
            go_enter Tryz.func27, Tryz.ntmps27
            go_wp2_with fail
            refine (cA.out _).mono ?_
            rintro e w2 ⟨hb2, v, rfl, hv⟩
            have hb12 := Bt hst hb2
            have hh2 := (hb2.block w.heap.size (by simp)).trans hh
            have c6 : w2.cell? ⟨w.heap.size, 6, none⟩ = some (.slice pa n c) := by rw [cell_of_row w2 w.heap.size 6 _ _ _ hh2]; rfl
            have hj := fun k h => @judge_acc false ty n (.inl rfl) k h
            have hjz := fun h => @judge_fit false ty n (Or.inr h)
            have hjl := fun h => @judge_long false ty n (Or.inr h)
            clear hh hst hb2 hh2 cA
            generalize acceptM ty = ac at *
            by_cases ha : ac.1 = 0
            · obtain ⟨_, rfl⟩ := hv.zero ha
              by_cases hn : 1048576 < n
              · have HJ := Lib.hid (hjl ha (by simpa using hn))
                have hnI : (n : Int) > 1048576 := by omega
                clear hn
                go_wp2_with fail
                refine (api_Fail' 14 0 _).mono ?_
                rintro e w3 ⟨v, rfl, hv, hb3⟩
                have hbx := Bt hb12 hb3
                go_wp2_with fail
                go_ret
                exact ⟨hbx, v, rfl, by rw [HJ.out]; exact .inr ⟨by decide, _, hv⟩⟩
              · have HJ := Lib.hid (hjz ha (by simpa using hn))
                have hnI : ¬ (n : Int) > 1048576 := by omega
                clear hn
                go_wp2_with fail
                go_ret
                exact ⟨hb12, _, rfl, by rw [HJ.out]; exact .inl ⟨rfl, rfl⟩⟩
            · obtain ⟨p, rfl⟩ := hv.iface ha
              have HJ := Lib.hid (hj ac.1 rfl ha)
              have h42 : ac.1 = 42 := by
                rcases hv with ⟨rfl, _⟩ | ⟨rfl, _⟩ | ⟨h, _⟩
                · exact absurd rfl ha
                · rfl
                · exact h
              clear hj hjz hjl hv ha h42
              go_wp2_with fail
              refine (wrap_fault 42 0 _ _ ⟨_, _, rfl⟩).mono ?_
              rintro e w3 ⟨u, rfl, hu, hb3⟩
              have hbx := Bt hb12 hb3
              go_wp2_with fail
              go_ret
              exact ⟨hbx, u, rfl, by rw [HJ.out]; exact .inr ⟨by decide, _, hu⟩⟩
          | true =>
            have htk : (if true = true then 131072 else 1048576) = 131072 := rfl
            by_cases hz : 0 < ty.size
            · have e0 := isEmpty_no hz
              have hh := heap_alloc_new w (.cells #[.int .u64 id, .int .i64 200, .bool false, .bool false, .string ty, .string ca, .slice pa n c] 76)
              have cA := Lib.hid (fun W => media_Accept ty W)
              go_enter Tryz.func27, Tryz.ntmps27
              go_wp2_with fail
              refine (cA.out _).mono ?_
              rintro e w2 ⟨hb2, v, rfl, hv⟩
              have hb12 := Bt hst hb2
              have hh2 := (hb2.block w.heap.size (by simp)).trans hh
              have c6 : w2.cell? ⟨w.heap.size, 6, none⟩ = some (.slice pa n c) := by rw [cell_of_row w2 w.heap.size 6 _ _ _ hh2]; rfl
              have hj := fun k h => @judge_acc true ty n (.inr hz) k h
              have hjz := fun h => @judge_fit true ty n (Or.inr h)
              have hjl := fun h => @judge_long true ty n (Or.inr h)
              clear hh hst hb2 hh2 cA
              generalize acceptM ty = ac at *
              by_cases ha : ac.1 = 0
              · obtain ⟨_, rfl⟩ := hv.zero ha
                by_cases hn : 131072 < n
                · have HJ := Lib.hid (hjl ha (by simpa using hn))
                  have hnI : (n : Int) > 131072 := by omega
                  clear hn
                  go_wp2_with fail
                  refine (api_Fail' 14 0 _).mono ?_
                  rintro e w3 ⟨v, rfl, hv, hb3⟩
                  have hbx := Bt hb12 hb3
                  go_wp2_with fail
                  go_ret
                  exact ⟨hbx, v, rfl, by rw [HJ.out]; exact .inr ⟨by decide, _, hv⟩⟩
                · have HJ := Lib.hid (hjz ha (by simpa using hn))
                  have hnI : ¬ (n : Int) > 131072 := by omega
                  clear hn
                  go_wp2_with fail
                  go_ret
                  exact ⟨hb12, _, rfl, by rw [HJ.out]; exact .inl ⟨rfl, rfl⟩⟩
              · obtain ⟨p, rfl⟩ := hv.iface ha
                have HJ := Lib.hid (hj ac.1 rfl ha)
                have h42 : ac.1 = 42 := by
                  rcases hv with ⟨rfl, _⟩ | ⟨rfl, _⟩ | ⟨h, _⟩
                  · exact absurd rfl ha
                  · rfl
                  · exact h
                clear hj hjz hjl hv ha h42
                go_wp2_with fail
                refine (wrap_fault 42 0 _ _ ⟨_, _, rfl⟩).mono ?_
                rintro e w3 ⟨u, rfl, hu, hb3⟩
                have hbx := Bt hb12 hb3
                go_wp2_with fail
                go_ret
                exact ⟨hbx, u, rfl, by rw [HJ.out]; exact .inr ⟨by decide, _, hu⟩⟩
            · have e0 := isEmpty_yes (show ty.size = 0 by omega)
              have e1 : ty.toList = [] := by simpa using e0
              have hnz : ¬ (true = false ∨ 0 < ty.size) := fun h => by rcases h with h | h; cases h; exact hz h
              have hjz := @judge_fit true ty n (Or.inl hnz)
              have hjl := @judge_long true ty n (Or.inl hnz)
              clear hnz hz
              by_cases hn : 131072 < n
              · have HJ := Lib.hid (hjl (by simpa using hn))
                have hnI : (n : Int) > 131072 := by omega
                clear hn hjz hjl
                go_enter Tryz.func27, Tryz.ntmps27
                go_wp2_with fail
                refine (api_Fail' 14 0 _).mono ?_
                rintro e w3 ⟨v, rfl, hv, hb3⟩
                have hbx := Bt hst hb3
                go_wp2_with fail
                go_ret
                exact ⟨hbx, v, rfl, by rw [HJ.out]; exact .inr ⟨by decide, _, hv⟩⟩
              · have HJ := Lib.hid (hjz (by simpa using hn))
                have hnI : ¬ (n : Int) > 131072 := by omega
                clear hn hjz hjl
                go_enter Tryz.func27, Tryz.ntmps27
                go_wp2_with fail
                go_ret
                exact ⟨hst, _, rfl, by rw [HJ.out]; exact .inl ⟨rfl, rfl⟩⟩
        · have HJ := Lib.hid (@judge_status apple st ty n h3 h2)
          have h2I : (st != 200) = true := by simpa using h2
          have hst : Below w.heap.size w (w.alloc (.cells #[.int .u64 id, .int .i64 st, .bool false, .bool false, .string ty, .string ca, .slice pa n c] 76)) := (Below.refl _ _).alloc (Nat.le_refl _) _
          by_cases h4 : 300 ≤ st
          · have h5 : ¬ st < 400 := by omega
            clear h3 h2
            cases apple
            · go_enter Tryz.func27, Tryz.ntmps27
              go_wp2_with fail
              refine (api_Fail' 40 0 _).mono ?_
              rintro e w3 ⟨v, rfl, hv, hb3⟩
              have hbx := Bt hst hb3
              go_wp2_with fail
              go_ret
              exact ⟨hbx, v, rfl, by rw [HJ.out]; exact .inr ⟨by decide, _, hv⟩⟩
            · go_enter Tryz.func27, Tryz.ntmps27
              go_wp2_with fail
              refine (api_Fail' 40 0 _).mono ?_
              rintro e w3 ⟨v, rfl, hv, hb3⟩
              have hbx := Bt hst hb3
              go_wp2_with fail
              go_ret
              exact ⟨hbx, v, rfl, by rw [HJ.out]; exact .inr ⟨by decide, _, hv⟩⟩
          · clear h3 h2
            cases apple
            · go_enter Tryz.func27, Tryz.ntmps27
              go_wp2_with fail
              refine (api_Fail' 40 0 _).mono ?_
              rintro e w3 ⟨v, rfl, hv, hb3⟩
              have hbx := Bt hst hb3
              go_wp2_with fail
              go_ret
              exact ⟨hbx, v, rfl, by rw [HJ.out]; exact .inr ⟨by decide, _, hv⟩⟩
            · go_enter Tryz.func27, Tryz.ntmps27
              go_wp2_with fail
              refine (api_Fail' 40 0 _).mono ?_
              rintro e w3 ⟨v, rfl, hv, hb3⟩
              have hbx := Bt hst hb3
              go_wp2_with fail
              go_ret
              exact ⟨hbx, v, rfl, by rw [HJ.out]; exact .inr ⟨by decide, _, hv⟩⟩
end Go.Proofs.YtibhohpamnpkcaaGreatDoor

/- The table of package subst. -/
namespace Go.Proofs.YtibhohpamnpkcaaGreatDoor

/-- The variables that there are always. -/
def clsT : List (ByteArray × ByteArray × Nat) := [(⟨#[97, 108, 112, 104, 97]⟩, ⟨#[97, 98, 99, 100, 101, 102, 103, 104, 105, 106, 107, 108, 109, 110, 111, 112, 113, 114, 115, 116, 117, 118, 119, 120, 121, 122, 65, 66, 67, 68, 69, 70, 71, 72, 73, 74, 75, 76, 77, 78, 79, 80, 81, 82, 83, 84, 85, 86, 87, 88, 89, 90]⟩, 1), (⟨#[117, 112, 112, 101, 114]⟩, ⟨#[65, 66, 67, 68, 69, 70, 71, 72, 73, 74, 75, 76, 77, 78, 79, 80, 81, 82, 83, 84, 85, 86, 87, 88, 89, 90]⟩, 1), (⟨#[108, 111, 119, 101, 114]⟩, ⟨#[97, 98, 99, 100, 101, 102, 103, 104, 105, 106, 107, 108, 109, 110, 111, 112, 113, 114, 115, 116, 117, 118, 119, 120, 121, 122]⟩, 1), (⟨#[100, 105, 103, 105, 116]⟩, ⟨#[48, 49, 50, 51, 52, 53, 54, 55, 56, 57]⟩, 1), (⟨#[97, 108, 110, 117, 109]⟩, ⟨#[97, 98, 99, 100, 101, 102, 103, 104, 105, 106, 107, 108, 109, 110, 111, 112, 113, 114, 115, 116, 117, 118, 119, 120, 121, 122, 65, 66, 67, 68, 69, 70, 71, 72, 73, 74, 75, 76, 77, 78, 79, 80, 81, 82, 83, 84, 85, 86, 87, 88, 89, 90, 48, 49, 50, 51, 52, 53, 54, 55, 56, 57]⟩, 1), (⟨#[120, 100, 105, 103, 105, 116]⟩, ⟨#[48, 49, 50, 51, 52, 53, 54, 55, 56, 57, 97, 98, 99, 100, 101, 102, 65, 66, 67, 68, 69, 70]⟩, 1), (⟨#[114, 101, 103, 105, 111, 110]⟩, ⟨#[65, 66, 67, 68, 69, 70, 71, 72, 73, 74, 75, 76, 77, 78, 79, 80, 81, 82, 83, 84, 85, 86, 87, 88, 89, 90]⟩, 2), (⟨#[108, 97, 110, 103]⟩, ⟨#[97, 98, 99, 100, 101, 102, 103, 104, 105, 106, 107, 108, 109, 110, 111, 112, 113, 114, 115, 116, 117, 118, 119, 120, 121, 122]⟩, 2)]
end Go.Proofs.YtibhohpamnpkcaaGreatDoor

/- What a row's list of package variables gives: errors.errorType, the tables of unicode/utf8. A world that holds them. -/
namespace Go.Proofs.YtibhohpamnpkcaaGreatDoor
open Go.ChangeShapes Go.WideShapes Go.RowKit

/-- The tables of unicode/utf8, as their initialisers lay them. -/
def Utf8Laid (w : World) : Prop := Lib.Utf8Tabs 3 4 w
theorem Utf8Laid.below {w w' : World} (h : Utf8Laid w) (hb : Below w.heap.size w w') : Utf8Laid w' :=
  ⟨fun c hc => (hb.cell (World.block_lt_of_cell? w _ (h.1 c hc))).trans (h.1 c hc),
    fun i hi => ⟨(hb.cell (World.block_lt_of_cell? w _ (h.2 i hi).1)).trans (h.2 i hi).1, (hb.cell (World.block_lt_of_cell? w _ (h.2 i hi).2)).trans (h.2 i hi).2⟩⟩
theorem Utf8Laid.drewN {w : World} (h : Utf8Laid w) (n : Nat) : Utf8Laid (w.drewN n) := h

def u8ren : Go.Shelf.Ren := ⟨fun n => n, fun | 5 => 5 | 119 => 320 | 138 => 322 | 139 => 323 | n => n, fun | 3 => 3 | 4 => 4 | n => n⟩
theorem u8types : U8Types Tryz.prog u8ren := { t5 := Tryz.underlying5, t119 := Tryz.underlying320, t138 := Tryz.underlying322, t139 := Tryz.underlying323 }
theorem u8extra : U8Extra Tryz.prog u8ren := { n3 := by kernel_rfl, n4 := by kernel_rfl, y3 := by kernel_rfl, y4 := by kernel_rfl, c5 := by kernel_rfl, c119 := by kernel_rfl, c138 := by kernel_rfl }
theorem u8first : Lib.firstData = Rows.laid_unicode_utf8_first := by kernel_rfl
theorem u8accept : Lib.acceptData = Rows.laid_unicode_utf8_acceptRanges := by kernel_rfl
noncomputable def laidWorld (os : Os) : World :=
  let w0 := World.holding Tryz.prog os ⟨#[], #[], []⟩
  let h1 := w0.heap.modify 0 fun
      | .cells _ t frozen => .cells #[.iface 153 (.agg #[.pointer (some ⟨5, 42, none⟩)])] t frozen
      | o => o
  let h2 := h1.modify 3 fun
      | .cells _ t frozen => .cells (Lib.firstTab.map (Value.int .u8)).toArray t frozen
      | o => o
  let h3 := h2.modify 4 fun
      | .cells _ t frozen => .cells ((List.range 16).flatMap fun i => [Value.int .u8 (Lib.accLo i : Nat), Value.int .u8 (Lib.accHi i : Nat)]).toArray t frozen
      | o => o
  let h3 := h3.modify 1 fun
      | .cells _ t frozen => .cells (clsT.flatMap fun c => [Value.string c.1, .string c.2.1, .int .i64 (c.2.2 : Nat)]).toArray t frozen
      | o => o
  { w0 with heap := h3 }
end Go.Proofs.YtibhohpamnpkcaaGreatDoor

/- The walk of WireStatus. -/
namespace Go.Proofs.YtibhohpamnpkcaaGreatDoor
open Go.RowKit

theorem size_resp : (Tryz.prog.info? 76).map (·.size) = some 7 := by kernel_rfl
def RespAt (w : World) (g : Nat) (id st : Int) (rd tm : Bool) (ty ca : ByteArray) (pa : Option Addr) (n c : Nat) : Prop := w.heap[g]? = some (.cells #[.int .u64 id, .int .i64 st, .bool rd, .bool tm, .string ty, .string ca, .slice pa n c] 76 (0, 0))
section
variable {w w' : World} {g : Nat} {id st : Int} {rd tm : Bool} {ty ca : ByteArray} {pa : Option Addr} {n c : Nat}
theorem RespAt.new : RespAt (w.alloc (.cells #[.int .u64 id, .int .i64 st, .bool rd, .bool tm, .string ty, .string ca, .slice pa n c] 76)) w.heap.size id st rd tm ty ca pa n c := heap_alloc_new w _
theorem RespAt.lt (h : RespAt w g id st rd tm ty ca pa n c) : g < w.heap.size := lt_of_block h
theorem RespAt.below (h : RespAt w g id st rd tm ty ca pa n c) (hb : Below w.heap.size w w') : RespAt w' g id st rd tm ty ca pa n c := (hb.block g h.lt).trans h
theorem RespAt.setType (h : RespAt w g id st rd tm ty ca pa n c) (v' : ByteArray) : RespAt (w.setCell ⟨g, 4, none⟩ (.string v')) g id st rd tm v' ca pa n c := by
  unfold RespAt at h ⊢; simp [World.setCell, Array.getElem?_modify, h]
theorem RespAt.frozen (h : RespAt w g id st rd tm ty ca pa n c) (j : Nat) : w.frozen? ⟨g, j, none⟩ = false := by
  unfold RespAt at h; simp [World.frozen?, h]
theorem RespAt.load (h : RespAt w g id st rd tm ty ca pa n c) : (loadVar 76 ⟨g, 0, none⟩).run Tryz.prog w = .ok (.agg #[.int .u64 id, .int .i64 st, .bool rd, .bool tm, .string ty, .string ca, .slice pa n c]) w :=
  run_loadVar_row w g _ _ _ _ _ h Tryz.underlying76 rfl (by rw [size_resp]; rfl)
theorem RespAt.cell (h : RespAt w g id st rd tm ty ca pa n c) (j : Nat) : w.cell? ⟨g, j, none⟩ = (#[.int .u64 id, .int .i64 st, .bool rd, .bool tm, .string ty, .string ca, .slice pa n c] : Array Value)[j]? := cell_of_row w g j _ _ _ h
end
theorem judge_ne {apple : Bool} {st : Int} {rd tm : Bool} {ty : ByteArray} {n : Nat} (h : st ≠ 200) : judgeN apple st rd tm ty n ≠ 0 := by
  unfold judgeN
  split
  · decide
  · split
    · decide
    · first | decide | (rw [if_pos h]; decide)
def jsonT : ByteArray := ⟨#[97, 112, 112, 108, 105, 99, 97, 116, 105, 111, 110, 47, 106, 115, 111, 110, 59, 32, 99, 104, 97, 114, 115, 101, 116, 61, 117, 116, 102, 45, 56]⟩
theorem j_json (apple : Bool) : judgeN apple 200 false false jsonT 0 = 0 := by cases apple <;> decide +kernel
theorem j_none : judgeN true 200 false false ⟨#[]⟩ 0 = 0 := by decide +kernel
theorem j_none' : judgeN false 200 false false ⟨#[]⟩ 0 = 42 := by decide +kernel
theorem j_sp1 : judgeN true 200 false false ⟨#[116, 101, 120, 116, 47, 104, 116, 109, 108]⟩ 0 = 42 := by decide +kernel
theorem j_sp2 : judgeN false 404 false false ⟨#[]⟩ 0 = 40 := by decide +kernel
theorem judge_yes {apple : Bool} {id st : Int} {rd tm : Bool} {ty ca : ByteArray} {pa : Option Addr} {n c : Nat} (w : World) (h : judgeN apple st rd tm ty n = 0) :
    Calls Tryz.prog 27 #[.bool apple, .agg #[.int .u64 id, .int .i64 st, .bool rd, .bool tm, .string ty, .string ca, .slice pa n c]] w fun e w' => e = .returned .nilIface ∧ Below w.heap.size w w' :=
  (wire_Judge apple id st rd tm ty ca pa n c w).mono fun e w' ⟨hb, v, he, hv⟩ => by
    rcases hv with ⟨_, rfl⟩ | ⟨h1, _⟩
    · exact ⟨he, hb⟩
    · exact absurd h h1
theorem judge_no {apple : Bool} {id st : Int} {rd tm : Bool} {ty ca : ByteArray} {pa : Option Addr} {n c : Nat} (w : World) (k : Nat) (h : judgeN apple st rd tm ty n = k) (hk : k ≠ 0) :
    Calls Tryz.prog 27 #[.bool apple, .agg #[.int .u64 id, .int .i64 st, .bool rd, .bool tm, .string ty, .string ca, .slice pa n c]] w fun e w' => Below w.heap.size w w' ∧ ∃ p, e = .returned (.iface 89 p) ∧ IsErr w' (.iface 89 p) k 0 :=
  (wire_Judge apple id st rd tm ty ca pa n c w).mono fun e w' ⟨hb, v, he, hv⟩ => by
    rw [h] at hv
    rcases hv with ⟨h1, _⟩ | ⟨h1, i, hv⟩
    · exact absurd h1 hk
    · obtain ⟨p, rfl⟩ := hv.ne_nil
      exact ⟨hb, p, he, .inr ⟨h1, i, hv⟩⟩
set_option maxHeartbeats 1600000 in
set_option maxRecDepth 100000 in
theorem speaks26 (w : World) (hg : Handle w) : Calls Tryz.prog 5 #[] w fun e w' => e = .returned (.bool true) ∧ Below w.heap.size w w' := by
  have C1 := Lib.hid (fun W => @judge_no true 0 200 false false ⟨#[116, 101, 120, 116, 47, 104, 116, 109, 108]⟩ ⟨#[]⟩ none 0 0 W 42 j_sp1 (by decide))
  have C2 := Lib.hid (fun W => @judge_no false 0 404 false false ⟨#[]⟩ ⟨#[]⟩ none 0 0 W 40 j_sp2 (by decide))
  go_enter Tryz.func5, Tryz.ntmps5
  go_wp2_with fail
  refine (C1.out _).mono ?_
  rintro e w1 ⟨hb1, p, rfl, hp⟩
  go_wp2_with fail
  refine (C2.out _).mono ?_
  rintro e w2 ⟨hb2, q, rfl, hq⟩
  have hb12 := Bt hb1 hb2
  have K1 := Lib.hid (fault_Kind _ _ _ w2 (hg.below hb12) (IsErr.below hp hb2))
  clear hp
  go_wp2_with fail
  refine K1.out.mono ?_
  rintro e w3 ⟨rfl, hb3⟩
  have hb13 := Bt hb12 hb3
  have K2 := Lib.hid (fault_Kind _ _ _ w3 (hg.below hb13) (IsErr.below hq hb3))
  clear hq
  go_wp2_with fail
  refine K2.out.mono ?_
  rintro e w4 ⟨rfl, hb4⟩
  have hb14 := Bt hb13 hb4
  go_wp2_with fail
  go_ret
  exact ⟨rfl, hb14⟩
end Go.Proofs.YtibhohpamnpkcaaGreatDoor

/- Rows of numbers that came in: rows of bytes, rows of ints. -/
namespace Go.Proofs.YtibhohpamnpkcaaGreatDoor
open Go.RowKit

/-- A slice of numbers that came in: nil, or a row of so many cells, each fitting its kind. -/
def IsRow (k : IntKind) (w : World) (a : Option Addr) (len cap : Nat) (zs : List Int) : Prop :=
  (a = none ∧ len = 0 ∧ cap = 0 ∧ zs = []) ∨
  ∃ x, a = some x ∧ len ≤ cap ∧ cap ≤ maxLen ∧ zs.length = cap ∧ (∀ i, i < zs.length → w.cell? (x.add i) = some (.int k (zs.getD i 0))) ∧ ∀ n ∈ zs, (Lit.int k n).wf = true

theorem spot_none {w : World} {x : Addr} {v : Value} (h : w.cell? (x.add 0) = some v) : x = ⟨x.block, x.off, none⟩ ∧ x.block < w.heap.size := by
  have hb := World.block_lt_of_cell? w _ h
  cases x with
  | mk b o s =>
    cases s with
    | none => exact ⟨rfl, hb⟩
    | some q =>
      simp only [World.cell?, Addr.add] at h
      split at h <;> simp at h

theorem IsRow.bytes {w : World} {a : Option Addr} {len cap : Nat} {zs : List Int} (h : IsRow .u8 w a len cap zs) : ∃ s : ByteArray, s.size = len ∧ BytesSl w (.slice a len cap) s := by
  rcases h with ⟨rfl, rfl, rfl, rfl⟩ | ⟨x, rfl, hl, hm, hz, hcell, hwz⟩
  · exact ⟨ByteArray.empty, rfl, .inl ⟨rfl, none, 0, rfl⟩⟩
  · have hsz : (⟨((zs.take len).map fun n => UInt8.ofNat n.toNat).toArray⟩ : ByteArray).size = len := by
      show (((zs.take len).map fun n => UInt8.ofNat n.toNat).toArray).size = _
      simp; omega
    refine ⟨⟨((zs.take len).map fun n => UInt8.ofNat n.toNat).toArray⟩, hsz, ?_⟩
    by_cases h0 : len = 0
    · exact .inl ⟨hsz.trans h0, some x, cap, by rw [h0]⟩
    · obtain ⟨hx, hb⟩ := spot_none (hcell 0 (by omega))
      refine .inr ⟨x.block, x.off, cap, by rw [hsz, ← hx], by rw [hsz]; exact hl, hm, hb, fun j hj => ?_⟩
      rw [hsz] at hj
      have hc := hcell j (by omega)
      have hadd : x.add j = ⟨x.block, x.off + j, none⟩ := by cases x; cases hx; simp [Addr.add]
      rw [hadd] at hc
      rw [hc]
      have hjz : j < zs.length := by omega
      have hw := hwz zs[j] (List.getElem_mem _)
      simp [Lit.wf, IntKind.min, IntKind.max, IntKind.signed, IntKind.bits] at hw
      simp only [byteAt, List.getD, List.getElem?_map, List.getElem?_take, if_pos hj, List.getElem?_eq_getElem hjz, Option.map_some, Option.getD_some]
      rw [UInt8.toNat_ofNat_of_lt' (by have : zs[j].toNat < 256 := by omega
                                       exact this), Int.toNat_of_nonneg hw.1]

/-- A slice of ints that reads as these numbers. -/
def IntsSl (w : World) (v : Value) (l : List Int) : Prop :=
  (l = [] ∧ ∃ a cap, v = .slice a 0 cap) ∨ ∃ b off cap, v = .slice (some ⟨b, off, none⟩) l.length cap ∧ l.length ≤ cap ∧ cap ≤ maxLen ∧ b < w.heap.size ∧ ∀ j, j < l.length → w.cell? ⟨b, off + j, none⟩ = some (.int .i64 (l.getD j 0))
theorem IntsSl.below {w w' : World} {v : Value} {l : List Int} (h : IntsSl w v l) (hb : Below w.heap.size w w') : IntsSl w' v l := by
  rcases h with h | ⟨b, off, cap, e, h1, h2, h3, h4⟩
  · exact .inl h
  · exact .inr ⟨b, off, cap, e, h1, h2, Nat.lt_of_lt_of_le h3 hb.size, fun j hj => (hb.cell (p := ⟨b, off + j, none⟩) h3).trans (h4 j hj)⟩
theorem IsRow.ints {w : World} {a : Option Addr} {len cap : Nat} {zs : List Int} (h : IsRow .i64 w a len cap zs) : ∃ l : List Int, l.length = len ∧ IntsSl w (.slice a len cap) l ∧ ∀ n ∈ l, (Lit.int .i64 n).wf = true := by
  rcases h with ⟨rfl, rfl, rfl, rfl⟩ | ⟨x, rfl, hl, hm, hz, hcell, hwz⟩
  · exact ⟨[], rfl, .inl ⟨rfl, none, 0, rfl⟩, fun _ h => by cases h⟩
  · have hlen : (zs.take len).length = len := by simp; omega
    refine ⟨zs.take len, hlen, ?_, fun n hn => hwz n (List.mem_of_mem_take hn)⟩
    by_cases h0 : len = 0
    · exact .inl ⟨by rw [h0]; rfl, some x, cap, by rw [h0]⟩
    · obtain ⟨hx, hb⟩ := spot_none (hcell 0 (by omega))
      refine .inr ⟨x.block, x.off, cap, by rw [hlen, ← hx], by rw [hlen]; exact hl, hm, hb, fun j hj => ?_⟩
      rw [hlen] at hj
      have hc := hcell j (by omega)
      have hadd : x.add j = ⟨x.block, x.off + j, none⟩ := by cases x; cases hx; simp [Addr.add]
      rw [hadd] at hc
      rw [hc]
      simp [List.getD, hj]
end Go.Proofs.YtibhohpamnpkcaaGreatDoor
