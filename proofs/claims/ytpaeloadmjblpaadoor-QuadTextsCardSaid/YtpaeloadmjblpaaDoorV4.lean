/- An address that a function gives back out of a variable of its own. -/
import Derived.Test.YtpaeloadmjblpaaDoorQuadOf
import Derived.Laws.Tables
import Derived.Laws.ResultCell
namespace Go.Proofs.YtpaeloadmjblpaaDoor
open Go.RowKit

theorem info_v4 : (Tryd.prog.info? 25).map (·.size) = some 4 := by kernel_rfl
/-- In block g lies an address. -/
def V4At (w : World) (g : Nat) (cs : Array Value) : Prop := cs.size = 4 ∧ w.heap[g]? = some (.cells cs 25 (0, 0))
def zero4 : Array Value := #[.int .u8 0, .int .u8 0, .int .u8 0, .int .u8 0]
theorem V4At.new (w : World) : V4At (w.alloc (.cells #[.int .u8 0, .int .u8 0, .int .u8 0, .int .u8 0] 25)) w.heap.size zero4 := ⟨rfl, heap_alloc_new w _⟩
theorem V4At.lt {w : World} {g : Nat} {cs : Array Value} (h : V4At w g cs) : g < w.heap.size := lt_of_block h.2
theorem V4At.below {w w' : World} {g : Nat} {cs : Array Value} (h : V4At w g cs) (hb : Below w.heap.size w w') : V4At w' g cs := ⟨h.1, (hb.block g h.lt).trans h.2⟩
theorem V4At.drewN {w : World} {g : Nat} {cs : Array Value} (h : V4At w g cs) (n : Nat) : V4At (w.drewN n) g cs := h
theorem V4At.set {w : World} {g : Nat} {cs : Array Value} (h : V4At w g cs) (ds : Array Value) (hd : ds.size = 4) : V4At (w.setRow g ds) g ds := ⟨hd, setRow_heap w g _ ds _ _ h.2⟩
theorem below_setRow {B : Nat} {a w : World} (h : Below B a w) {g : Nat} (hg : B ≤ g) (cs : Array Value) : Below B a (w.setRow g cs) :=
  ⟨h.os, h.tape, h.output, by simpa using h.size, fun k hk => (setRow_other w g k cs (by omega)).trans (h.block k hk)⟩
theorem V4At.load {w : World} {g : Nat} {cs : Array Value} (h : V4At w g cs) : (loadVar 25 ⟨g, 0, none⟩).run Tryd.prog w = .ok (.agg cs) w :=
  run_loadVar_row w g _ _ cs _ _ h.2 Tryd.underlying25 rfl (by rw [info_v4, h.1])
theorem FaultIs.setV4 {w : World} {v : Value} {k i : Int} {n : Value} {g : Nat} {cs : Array Value} (h : FaultIs w v k i n) (hg : V4At w g cs) (ds : Array Value) : FaultIs (w.setRow g ds) v k i n := by
  obtain ⟨b, rfl, hh⟩ := h
  have hne : b ≠ g := by
    rintro rfl
    have := hg.2
    rw [hh] at this
    injection this with this
    injection this with h1 h2
    have := hg.1
    rw [← h1] at this
    cases this
  exact ⟨b, rfl, (setRow_other w g b ds hne).trans hh⟩
section
variable {fn : Func} {p u v : Tmp} {tmps : Array Value} {w : World} {g : Nat} {cs : Array Value}
theorem results_v4 (h : fn.results = #[.cell p 25, .tmp u]) (hp : tmps.getD p undef = .pointer (some ⟨g, 0, none⟩)) (hg : V4At w g cs) :
    (results fn tmps).run Tryd.prog w = .ok (.tuple #[.agg cs, tmps.getD u undef]) w := by
  rw [results_cell_tmp h, hp]
  simp [asAddr, Result.andThen, hg.load]
theorem results_v4_3 (h : fn.results = #[.cell p 25, .tmp u, .tmp v]) (hp : tmps.getD p undef = .pointer (some ⟨g, 0, none⟩)) (hg : V4At w g cs) :
    (results fn tmps).run Tryd.prog w = .ok (.tuple #[.agg cs, tmps.getD u undef, tmps.getD v undef]) w := by
  have hp' : tmps[p]?.getD undef = .pointer (some ⟨g, 0, none⟩) := by simpa using hp
  simp [results, h, hp', asAddr, Result.andThen, hg.load, Sem.run_bind]
end
section
variable {w : World} {ops : Array Oper} {rest : List Oper} {o : Oper} {a : Act} {Q : Exit → Act → World → Prop}
/-- An address is stored into a variable of the function's own. -/
theorem all_one (p q r s : Int) : (#[Value.int .u8 p, .int .u8 q, .int .u8 r, .int .u8 s] : Array Value).all (·.oneCell') = true := by simp [Value.oneCell']
theorem wpList_store_v4 (hgd : o.guard = none) (x y : Operand) (ho : o.op = .store 25 x y) (g : Nat) (p q r s : Int) (hx : a.eval x = .pointer (some ⟨g, 0, none⟩)) (hy : a.eval y = .agg #[.int .u8 p, .int .u8 q, .int .u8 r, .int .u8 s]) (old : Array Value) (hg : V4At w g old)
    (h : V4At (w.setRow g #[.int .u8 p, .int .u8 q, .int .u8 r, .int .u8 s]) g #[.int .u8 p, .int .u8 q, .int .u8 r, .int .u8 s] → wpList Tryd.prog ops Q rest (a.put o.dst undef) (w.setRow g #[.int .u8 p, .int .u8 q, .int .u8 r, .int .u8 s])) : wpList Tryd.prog ops Q (o :: rest) a w :=
  wpList_store_row hgd _ x y ho g _ hx hy _ old hg.2 (by rw [info_v4]; rfl) hg.1 (all_one p q r s) (h (hg.set _ rfl))
end
end Go.Proofs.YtpaeloadmjblpaaDoor
