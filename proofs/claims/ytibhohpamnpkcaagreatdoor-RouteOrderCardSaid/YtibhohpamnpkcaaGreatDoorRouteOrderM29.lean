/- Whether a URL is as a rule wants it. -/
import Derived.Test.YtibhohpamnpkcaaGreatDoorRouteOrderM28
import Derived.Test.YtibhohpamnpkcaaGreatDoorRouteOrderM20

namespace Go.Proofs.YtibhohpamnpkcaaGreatDoor
open Go.RowKit

structure RuZ (x : Ru) : Prop where
  path : x.r.path.size ≤ 16777216
  query : x.r.query.size ≤ 16777216
  frag : x.r.frag.size ≤ 16777216
  len : x.items.length ≤ 16777216
  vals : ∀ i ∈ x.items, i.value.size ≤ 16777216
structure UrZ (u : Ur) : Prop where
  path : u.path.size ≤ 1000000
  query : u.query.size ≤ 1000000
  frag : u.frag.size ≤ 1000000
/-- Rules' texts are not too great; what they want lies where it lay. -/
structure RuleIn (w : World) (x : Ru) : Prop where
  len : x.r.ilen = x.items.length
  sl : ItemsSl w x.r.ia x.items
  z : RuZ x
theorem RuleIn.below {w w' : World} {x : Ru} (h : RuleIn w x) (hb : Below w.heap.size w w') : RuleIn w' x := ⟨h.len, h.sl.below hb, h.z⟩
def rlV (r : Rl) : Value := .agg #[.string r.path, .string r.query, .string r.frag, .bool r.hp, .bool r.hq, .bool r.hf, .slice r.ia r.ilen r.icap, .bool r.ex, .bool r.fold, .bool r.dec]
def urA (u : Ur) : Array Value := #[.string u.scheme, .int .i64 u.hk, .string u.host, .int .i64 u.port, .string u.path, .string u.query, .string u.frag, .bool u.hq, .bool u.hf]
/-- In block g lies a URL; a rule. -/
def UrlAt (w : World) (g : Nat) (u : Ur) : Prop := w.heap[g]? = some (.cells (urA u) 59 (0, 0))
def RuleAt (w : World) (g : Nat) (r : Rl) : Prop := w.heap[g]? = some (.cells (rlC r).toArray 62 (0, 0))
theorem UrlAt.below {w w' : World} {g : Nat} {u : Ur} (h : UrlAt w g u) (hb : Below w.heap.size w w') : UrlAt w' g u := (hb.block _ (lt_of_block h)).trans h
theorem RuleAt.below {w w' : World} {g : Nat} {r : Rl} (h : RuleAt w g r) (hb : Below w.heap.size w w') : RuleAt w' g r := (hb.block _ (lt_of_block h)).trans h
theorem UrlAt.cells {w : World} {g : Nat} {u : Ur} (h : UrlAt w g u) :
    w.cell? ⟨g, 0, none⟩ = some (.string u.scheme) ∧ w.cell? ⟨g, 1, none⟩ = some (.int .i64 u.hk) ∧ w.cell? ⟨g, 2, none⟩ = some (.string u.host) ∧ w.cell? ⟨g, 3, none⟩ = some (.int .i64 u.port) ∧ w.cell? ⟨g, 4, none⟩ = some (.string u.path) ∧ w.cell? ⟨g, 5, none⟩ = some (.string u.query) ∧ w.cell? ⟨g, 6, none⟩ = some (.string u.frag) ∧ w.cell? ⟨g, 7, none⟩ = some (.bool u.hq) ∧ w.cell? ⟨g, 8, none⟩ = some (.bool u.hf) :=
  ⟨(cell_of_row _ _ 0 _ _ _ h).trans rfl, (cell_of_row _ _ 1 _ _ _ h).trans rfl, (cell_of_row _ _ 2 _ _ _ h).trans rfl, (cell_of_row _ _ 3 _ _ _ h).trans rfl, (cell_of_row _ _ 4 _ _ _ h).trans rfl, (cell_of_row _ _ 5 _ _ _ h).trans rfl, (cell_of_row _ _ 6 _ _ _ h).trans rfl, (cell_of_row _ _ 7 _ _ _ h).trans rfl, (cell_of_row _ _ 8 _ _ _ h).trans rfl⟩
theorem RuleAt.cells {w : World} {g : Nat} {r : Rl} (h : RuleAt w g r) :
    w.cell? ⟨g, 0, none⟩ = some (.string r.path) ∧ w.cell? ⟨g, 1, none⟩ = some (.string r.query) ∧ w.cell? ⟨g, 2, none⟩ = some (.string r.frag) ∧ w.cell? ⟨g, 3, none⟩ = some (.bool r.hp) ∧ w.cell? ⟨g, 4, none⟩ = some (.bool r.hq) ∧ w.cell? ⟨g, 5, none⟩ = some (.bool r.hf) ∧ w.cell? ⟨g, 6, none⟩ = some (.slice r.ia r.ilen r.icap) ∧ w.cell? ⟨g, 7, none⟩ = some (.bool r.ex) ∧ w.cell? ⟨g, 8, none⟩ = some (.bool r.fold) ∧ w.cell? ⟨g, 9, none⟩ = some (.bool r.dec) :=
  ⟨(cell_of_row _ _ 0 _ _ _ h).trans rfl, (cell_of_row _ _ 1 _ _ _ h).trans rfl, (cell_of_row _ _ 2 _ _ _ h).trans rfl, (cell_of_row _ _ 3 _ _ _ h).trans rfl, (cell_of_row _ _ 4 _ _ _ h).trans rfl, (cell_of_row _ _ 5 _ _ _ h).trans rfl, (cell_of_row _ _ 6 _ _ _ h).trans rfl, (cell_of_row _ _ 7 _ _ _ h).trans rfl, (cell_of_row _ _ 8 _ _ _ h).trans rfl, (cell_of_row _ _ 9 _ _ _ h).trans rfl⟩
set_option maxHeartbeats 6400000 in
set_option maxRecDepth 100000 in
theorem route_Matches (x : Ru) (u : Ur) (av : Option Addr) (vcap : Nat) (vars : List SVar) (w : World) (hw : Looks w av vars) (hH : Handle w) (hx : RuleIn w x) (hu : UrZ u) :
    Calls Tryz.prog 26 #[.agg #[.string x.r.path, .string x.r.query, .string x.r.frag, .bool x.r.hp, .bool x.r.hq, .bool x.r.hf, .slice x.r.ia x.r.ilen x.r.icap, .bool x.r.ex, .bool x.r.fold, .bool x.r.dec], .slice av vars.length vcap, .agg #[.string u.scheme, .int .i64 u.hk, .string u.host, .int .i64 u.port, .string u.path, .string u.query, .string u.frag, .bool u.hq, .bool u.hf]] w fun e w' => e = .returned (.bool (ruleP vars u x)) ∧ Below w.heap.size w w' := by
  obtain ⟨⟨f0, f1, f2, f3, f4, f5, f6, ln, f7, f8, f9, f10⟩, items⟩ := x
  obtain ⟨u0, u1, u2, u3, u4, u5, u6, u7, u8⟩ := u
  obtain ⟨hln, hsl, ⟨z0, z1, z2, z3, z4⟩⟩ := hx
  obtain ⟨y0, y1, y2⟩ := hu
  dsimp only at hln hsl z0 z1 z2 z3 z4 y0 y1 y2 ⊢
  subst hln
  have HP := Lib.hid (show ruleP vars ⟨u0, u1, u2, u3, u4, u5, u6, u7, u8⟩ ⟨⟨f0, f1, f2, f3, f4, f5, f6, items.length, f7, f8, f9, f10⟩, items⟩ = (fitsP f10 f9 f3 f0 vars u4 && (fitsP f10 f9 f4 f1 vars u5 && (fitsP f10 f9 f5 f2 vars u6 && wantsP f9 vars items u5))) from rfl)
  have HF := Lib.hid (fun W (hW : Below w.heap.size w W) => (⟨hw.below hW, hH.below hW, hsl.below hW⟩ : Looks W av vars ∧ Handle W ∧ ItemsSl W f6 items))
  have C1 := Lib.hid (fun W (hW : Below w.heap.size w W) => look_fits ⟨f0, f1, f2, f3, f4, f5, f6, items.length, f7, f8, f9, f10⟩ f3 f0 u4 av vcap vars W (HF.out W hW).1 z0 (by omega))
  have C2 := Lib.hid (fun W (hW : Below w.heap.size w W) => look_fits ⟨f0, f1, f2, f3, f4, f5, f6, items.length, f7, f8, f9, f10⟩ f4 f1 u5 av vcap vars W (HF.out W hW).1 z1 (by omega))
  have C3 := Lib.hid (fun W (hW : Below w.heap.size w W) => look_fits ⟨f0, f1, f2, f3, f4, f5, f6, items.length, f7, f8, f9, f10⟩ f5 f2 u6 av vcap vars W (HF.out W hW).1 z2 (by omega))
  have C4 := Lib.hid (fun W (hW : Below w.heap.size w W) => look_items ⟨f0, f1, f2, f3, f4, f5, f6, items.length, f7, f8, f9, f10⟩ items u5 av vcap vars W (HF.out W hW).1 (HF.out W hW).2.1 y1 rfl (HF.out W hW).2.2 z3 z4)
  have hal : Below w.heap.size w (((w.alloc (.cells #[.string f0, .string f1, .string f2, .bool f3, .bool f4, .bool f5, .slice f6 items.length f7, .bool f8, .bool f9, .bool f10] 62)).alloc (.cells #[.string u0, .int .i64 u1, .string u2, .int .i64 u3, .string u4, .string u5, .string u6, .bool u7, .bool u8] 59)).alloc (.cells #[.string f0, .string f1, .string f2, .bool f3, .bool f4, .bool f5, .slice f6 items.length f7, .bool f8, .bool f9, .bool f10, .slice av vars.length vcap] 109)) := (((Below.refl _ _).alloc (Nat.le_refl _) _).alloc (by simp) _).alloc (by simp; omega) _
  have hR : RuleAt (((w.alloc (.cells #[.string f0, .string f1, .string f2, .bool f3, .bool f4, .bool f5, .slice f6 items.length f7, .bool f8, .bool f9, .bool f10] 62)).alloc (.cells #[.string u0, .int .i64 u1, .string u2, .int .i64 u3, .string u4, .string u5, .string u6, .bool u7, .bool u8] 59)).alloc (.cells #[.string f0, .string f1, .string f2, .bool f3, .bool f4, .bool f5, .slice f6 items.length f7, .bool f8, .bool f9, .bool f10, .slice av vars.length vcap] 109)) w.heap.size ⟨f0, f1, f2, f3, f4, f5, f6, items.length, f7, f8, f9, f10⟩ := RuleAt.below (RuleAt.below (heap_alloc_new w _) ((Below.refl _ _).alloc (Nat.le_refl _) _)) ((Below.refl _ _).alloc (Nat.le_refl _) _)
  have hU : UrlAt (((w.alloc (.cells #[.string f0, .string f1, .string f2, .bool f3, .bool f4, .bool f5, .slice f6 items.length f7, .bool f8, .bool f9, .bool f10] 62)).alloc (.cells #[.string u0, .int .i64 u1, .string u2, .int .i64 u3, .string u4, .string u5, .string u6, .bool u7, .bool u8] 59)).alloc (.cells #[.string f0, .string f1, .string f2, .bool f3, .bool f4, .bool f5, .slice f6 items.length f7, .bool f8, .bool f9, .bool f10, .slice av vars.length vcap] 109)) (w.heap.size + 1) ⟨u0, u1, u2, u3, u4, u5, u6, u7, u8⟩ := UrlAt.below (by have := heap_alloc_new (w.alloc (.cells #[.string f0, .string f1, .string f2, .bool f3, .bool f4, .bool f5, .slice f6 items.length f7, .bool f8, .bool f9, .bool f10] 62)) (.cells #[.string u0, .int .i64 u1, .string u2, .int .i64 u3, .string u4, .string u5, .string u6, .bool u7, .bool u8] 59); rw [World.size_alloc] at this; exact this) ((Below.refl _ _).alloc (Nat.le_refl _) _)
  have hL : LookAt (((w.alloc (.cells #[.string f0, .string f1, .string f2, .bool f3, .bool f4, .bool f5, .slice f6 items.length f7, .bool f8, .bool f9, .bool f10] 62)).alloc (.cells #[.string u0, .int .i64 u1, .string u2, .int .i64 u3, .string u4, .string u5, .string u6, .bool u7, .bool u8] 59)).alloc (.cells #[.string f0, .string f1, .string f2, .bool f3, .bool f4, .bool f5, .slice f6 items.length f7, .bool f8, .bool f9, .bool f10, .slice av vars.length vcap] 109)) (w.heap.size + 1 + 1) ⟨f0, f1, f2, f3, f4, f5, f6, items.length, f7, f8, f9, f10⟩ av vars.length vcap := by
    have := heap_alloc_new ((w.alloc (.cells #[.string f0, .string f1, .string f2, .bool f3, .bool f4, .bool f5, .slice f6 items.length f7, .bool f8, .bool f9, .bool f10] 62)).alloc (.cells #[.string u0, .int .i64 u1, .string u2, .int .i64 u3, .string u4, .string u5, .string u6, .bool u7, .bool u8] 59)) (.cells #[.string f0, .string f1, .string f2, .bool f3, .bool f4, .bool f5, .slice f6 items.length f7, .bool f8, .bool f9, .bool f10, .slice av vars.length vcap] 109)
    rw [World.size_alloc, World.size_alloc] at this
    exact this
  have HAL := Lib.hid hal
  have HX := Lib.hid (fun W (h : Below (((w.alloc (.cells #[.string f0, .string f1, .string f2, .bool f3, .bool f4, .bool f5, .slice f6 items.length f7, .bool f8, .bool f9, .bool f10] 62)).alloc (.cells #[.string u0, .int .i64 u1, .string u2, .int .i64 u3, .string u4, .string u5, .string u6, .bool u7, .bool u8] 59)).alloc (.cells #[.string f0, .string f1, .string f2, .bool f3, .bool f4, .bool f5, .slice f6 items.length f7, .bool f8, .bool f9, .bool f10, .slice av vars.length vcap] 109)).heap.size (((w.alloc (.cells #[.string f0, .string f1, .string f2, .bool f3, .bool f4, .bool f5, .slice f6 items.length f7, .bool f8, .bool f9, .bool f10] 62)).alloc (.cells #[.string u0, .int .i64 u1, .string u2, .int .i64 u3, .string u4, .string u5, .string u6, .bool u7, .bool u8] 59)).alloc (.cells #[.string f0, .string f1, .string f2, .bool f3, .bool f4, .bool f5, .slice f6 items.length f7, .bool f8, .bool f9, .bool f10, .slice av vars.length vcap] 109)) W) => (⟨(hR.below h).cells, (hU.below h).cells, (hL.below h).cells⟩ : _ ∧ _ ∧ _))
  generalize fitsP f10 f9 f3 f0 vars u4 = k1 at *
  generalize fitsP f10 f9 f4 f1 vars u5 = k2 at *
  generalize fitsP f10 f9 f5 f2 vars u6 = k3 at *
  generalize wantsP f9 vars items u5 = k4 at *
  clear hw hH hsl z0 z1 z2 z3 z4 y0 y1 y2 HF hR hU hL
  go_enter Tryz.func26, Tryz.ntmps26
  go_wp2_with fail
  refine (C1.out _ HAL.out).mono ?_
  rintro e w1 ⟨rfl, hb1⟩
  have hb01 := Bt HAL.out hb1
  obtain ⟨⟨a0, a1, a2, a3, a4, a5, a6, a7, a8, a9⟩, ⟨b0, b1, b2, b3, b4, b5, b6, b7, b8⟩, ⟨c0, c1, c2, c3, c4, c5, c6, c7, c8, c9, c10⟩⟩ := HX.out _ hb1
  try dsimp only at a0 a1 a2 a3 a4 a5 a6 a7 a8 a9 b0 b1 b2 b3 b4 b5 b6 b7 b8 c0 c1 c2 c3 c4 c5 c6 c7 c8 c9 c10
  have HB1 := Lib.hid hb1
  clear hal hb1
  cases k1
  · go_wp2_with fail
    go_ret
    exact ⟨ret_bool (by rw [HP.out]; rfl), hb01⟩
  go_wp2_with fail
  refine (C2.out _ hb01).mono ?_
  rintro e w2 ⟨rfl, hb2⟩
  have hb02 := Bt hb01 hb2
  have hbb2 := Bt HB1.out hb2
  clear a0 a1 a2 a3 a4 a5 a6 a7 a8 a9 b0 b1 b2 b3 b4 b5 b6 b7 b8 c0 c1 c2 c3 c4 c5 c6 c7 c8 c9 c10
  obtain ⟨⟨a0, a1, a2, a3, a4, a5, a6, a7, a8, a9⟩, ⟨b0, b1, b2, b3, b4, b5, b6, b7, b8⟩, ⟨c0, c1, c2, c3, c4, c5, c6, c7, c8, c9, c10⟩⟩ := HX.out _ hbb2
  try dsimp only at a0 a1 a2 a3 a4 a5 a6 a7 a8 a9 b0 b1 b2 b3 b4 b5 b6 b7 b8 c0 c1 c2 c3 c4 c5 c6 c7 c8 c9 c10
  have HB2 := Lib.hid hbb2
  clear hbb2 hb2 hb01
  cases k2
  · go_wp2_with fail
    go_ret
    exact ⟨ret_bool (by rw [HP.out]; rfl), hb02⟩
  go_wp2_with fail
  refine (C3.out _ hb02).mono ?_
  rintro e w3 ⟨rfl, hb3⟩
  have hb03 := Bt hb02 hb3
  have hbb3 := Bt HB2.out hb3
  clear a0 a1 a2 a3 a4 a5 a6 a7 a8 a9 b0 b1 b2 b3 b4 b5 b6 b7 b8 c0 c1 c2 c3 c4 c5 c6 c7 c8 c9 c10
  obtain ⟨⟨a0, a1, a2, a3, a4, a5, a6, a7, a8, a9⟩, ⟨b0, b1, b2, b3, b4, b5, b6, b7, b8⟩, ⟨c0, c1, c2, c3, c4, c5, c6, c7, c8, c9, c10⟩⟩ := HX.out _ hbb3
  try dsimp only at a0 a1 a2 a3 a4 a5 a6 a7 a8 a9 b0 b1 b2 b3 b4 b5 b6 b7 b8 c0 c1 c2 c3 c4 c5 c6 c7 c8 c9 c10
  clear hbb3 hb3 hb02
  cases k3
  · go_wp2_with fail
    go_ret
    exact ⟨ret_bool (by rw [HP.out]; rfl), hb03⟩
  go_wp2_with fail
  refine (C4.out _ hb03).mono ?_
  rintro e w4 ⟨rfl, hb4⟩
  have hb04 := Bt hb03 hb4
  go_wp2_with fail
  go_ret
  exact ⟨ret_bool (by rw [HP.out]; rfl), hb04⟩
end Go.Proofs.YtibhohpamnpkcaaGreatDoor

/- Of the reference of chapter 14: a URL's host, where it is a name without a port. -/
namespace Go.Proofs.YtibhohpamnpkcaaGreatDoor
open Go.RowKit

theorem isUrl : IsStr 59 9 := ⟨⟨_, Tryz.underlying59⟩, by kernel_rfl⟩
/-- A text's host is this name, that stands from a place to another one. -/
structure HostT (s : ByteArray) (a b : Nat) (t : ByteArray) : Prop where
  le : a < b
  len : b ≤ s.size
  small : b - a ≤ 2000
  user : firstM (s.extract 0 b) a ⟨#[64]⟩ = b
  plain : ∀ i, a ≤ i → i < b → byteAt s i ≠ 58 ∧ byteAt s i ≠ 93
  first : byteAt (s.extract a b) 0 ≠ 91
  told_ : (told (s.extract a b)).2 = none
  name : ∀ r, NameIs ⟨(bytesT (s.extract a b)).toArray⟩ r → r = .ok t
  num : numericB t = false
  tz : t.size ≤ 2000
def urZ : Array Value := #[.string ⟨#[]⟩, .int .i64 0, .string ⟨#[]⟩, .int .i64 0, .string ⟨#[]⟩, .string ⟨#[]⟩, .string ⟨#[]⟩, .bool false, .bool false]
def wrZ : Array Value := #[.int .i64 0, .int .i64 0, .int .i64 0]
theorem urA_one (u : Ur) : (urA u).all (·.oneCell') = true := by simp [urA, Value.oneCell']
set_option maxHeartbeats 6400000 in
set_option maxRecDepth 100000 in
theorem ref14_authority (u : Ur) (s : ByteArray) (a b : Nat) (t : ByteArray) (w : World) (hs : s.size ≤ 16777216) (h : HostT s a b t) :
    Calls Tryz.prog 58 #[.agg #[.string u.scheme, .int .i64 u.hk, .string u.host, .int .i64 u.port, .string u.path, .string u.query, .string u.frag, .bool u.hq, .bool u.hf], .string s, .int .i64 (a : Int), .int .i64 (b : Int)] w fun e w' => e = .returned (.tuple #[.agg #[.string u.scheme, .int .i64 1, .string t, .int .i64 u.port, .string u.path, .string u.query, .string u.frag, .bool u.hq, .bool u.hf], wrV ⟨0, 0, 0⟩]) ∧ Below w.heap.size w w' := by
  obtain ⟨u0, u1, u2, u3, u4, u5, u6, u7, u8⟩ := u
  obtain ⟨h1, h2, h3, h4, h5, h6, h7, h8, h9, h10⟩ := h
  dsimp only
  have hz0 : (s.extract 0 b).size = b := by rw [ByteArray.size_extract]; omega
  have hz1 : (s.extract a b).size = b - a := by rw [ByteArray.size_extract]; omega
  have CF := Lib.hid (fun W => ref14_first (s.extract 0 b) ⟨#[64]⟩ a W (by omega) (by decide) (by omega))
  rw [h4] at CF
  have CC := Lib.hid (fun W => ref13_Canon_name (s.extract a b) t W (by omega) (by omega) h6 h7 h8 h9 h10)
  have HPL := Lib.hid h5
  have HAL := Lib.hid (below_alloc3 w (.cells #[.string u0, .int .i64 u1, .string u2, .int .i64 u3, .string u4, .string u5, .string u6, .bool u7, .bool u8] 59) (.cells urZ 59) (.cells wrZ 95))
  have HU := Lib.hid (((BlkAt.new w #[.string u0, .int .i64 u1, .string u2, .int .i64 u3, .string u4, .string u5, .string u6, .bool u7, .bool u8] 59).alloc (.cells urZ 59)).alloc (.cells wrZ 95))
  have HR := Lib.hid ((BlkAt.new1 w (.cells #[.string u0, .int .i64 u1, .string u2, .int .i64 u3, .string u4, .string u5, .string u6, .bool u7, .bool u8] 59) urZ 59).alloc (.cells wrZ 95))
  have HE := Lib.hid (BlkAt.new2 w (.cells #[.string u0, .int .i64 u1, .string u2, .int .i64 u3, .string u4, .string u5, .string u6, .bool u7, .bool u8] 59) (.cells urZ 59) wrZ 95)
  unfold urZ wrZ at HAL HU HR HE
  have i1 : (a : Int) ≤ (b : Int) := by omega
  have i2 : (b : Int) ≤ (s.size : Int) := by omega
  have i3 : ¬ (b : Int) < (b : Int) := by omega
  have i4 : (a : Int) < (b : Int) := by omega
  have z : b ≤ 16777216 := by omega
  clear h4 h5 h6 h7 h8 h9 h10 h3 hz0 hz1
  go_enter Tryz.func58, Tryz.ntmps58
  go_wp2_with fail
  refine (CF.out _).mono ?_
  rintro e w2 ⟨rfl, rfl⟩
  go_wp2_with fail
  go_loop [11, 12, 13] (fun y z x => ∃ i : Nat, a ≤ i ∧ i ≤ b ∧ x = .int .i64 i ∧ y = .int .i64 b ∧ z = .int .i64 b) (fun _ _ x => b - (intOf x).toNat)
  case atStart => exact ⟨a, Nat.le_refl _, by omega, rfl, rfl, rfl⟩
  case round =>
    obtain ⟨i, hai, hib, rfl, rfl, rfl⟩ := hrel
    by_cases hlt : i < b
    · have hls : i < s.size := by omega
      have hb := byteAt_el hls
      have hg := HPL.out i hai hlt
      rw [hb] at hg
      have iI : (i : Int) < (b : Int) := by omega
      have e1 : ((s[i].toNat : Int) == 58) = false := by
        rw [beq_eq_false_iff_ne]
        intro e
        exact hg.1 (UInt8.toNat_inj.1 (by have : s[i].toNat = 58 := by omega
                                          rw [this]; rfl))
      have e2 : ((s[i].toNat : Int) == 93) = false := by
        rw [beq_eq_false_iff_ne]
        intro e
        exact hg.2 (UInt8.toNat_inj.1 (by have : s[i].toNat = 93 := by omega
                                          rw [this]; rfl))
      clear hb hg
      go_wp2_with fail
      go_round
      case rel => exact ⟨i + 1, by omega, by omega, by go_num, rfl, rfl⟩
      case measure => simp [intOf]; omega
    · obtain rfl : i = b := by omega
      go_wp2_with fail
      refine (CC.out _).mono ?_
      rintro e w4 ⟨rfl, hb4⟩
      have hB4 := Bt HAL.out hb4
      have hU4 := HU.out.below hb4
      have hR4 := HR.out.below hb4
      have hE4 := HE.out.below hb4
      clear hb4 HAL HU HR HE CC CF
      unfold hostV
      have hsz := hE4.lt
      have hU5 := hU4.alloc (.cells #[.int .i64 1, .string t] 33)
      have hR5 := hR4.alloc (.cells #[.int .i64 1, .string t] 33)
      have hE5 := hE4.alloc (.cells #[.int .i64 1, .string t] 33)
      have hB5 := Bt hB4 (below_alloc w4 (.cells #[.int .i64 1, .string t] 33))
      have g0 := hU5.cell 0 _ rfl
      have g1 := hU5.cell 1 _ rfl
      have g2 := hU5.cell 2 _ rfl
      have g3 := hU5.cell 3 _ rfl
      have g4 := hU5.cell 4 _ rfl
      have g5 := hU5.cell 5 _ rfl
      have g6 := hU5.cell 6 _ rfl
      have g7 := hU5.cell 7 _ rfl
      have g8 := hU5.cell 8 _ rfl
      have gf1 := hU5.frozen 1
      have gf2 := hU5.frozen 2
      have hU7 := (hU5.setCell 1 (.int .i64 1)).setCell 2 (.string t)
      have hR7 := (hR5.setCellOther (q := w.heap.size) (by omega) 1 (.int .i64 1)).setCellOther (q := w.heap.size) (by omega) 2 (.string t)
      have hE7 := (hE5.setCellOther (q := w.heap.size) (by omega) 1 (.int .i64 1)).setCellOther (q := w.heap.size) (by omega) 2 (.string t)
      have hB7 := below_setC (below_setC hB5 (Nat.le_refl _) 1 (.int .i64 1)) (Nat.le_refl _) 2 (.string t)
      clear hU4 hR4 hE4 hB4 hU5 hR5 hE5 hB5
      go_upto_region 24 with (fail)
      clear g0 g1 g2 g3 g4 g5 g6 g7 g8 gf1 gf2
      generalize ((w4.alloc (.cells #[.int .i64 1, .string t] 33)).setCell ⟨w.heap.size, 1, none⟩ (.int .i64 1)).setCell ⟨w.heap.size, 2, none⟩ (.string t) = W7 at *
      have g0 := hU7.cell 0 _ rfl
      have g1 := hU7.cell 1 _ rfl
      have g2 := hU7.cell 2 _ rfl
      have g3 := hU7.cell 3 _ rfl
      have g4 := hU7.cell 4 _ rfl
      have g5 := hU7.cell 5 _ rfl
      have g6 := hU7.cell 6 _ rfl
      have g7 := hU7.cell 7 _ rfl
      have g8 := hU7.cell 8 _ rfl
      clear hU7
      have hE8 := hE7.setOther (q := w.heap.size + 1) (by omega) #[.string u0, .int .i64 1, .string t, .int .i64 u3, .string u4, .string u5, .string u6, .bool u7, .bool u8]
      clear hE7
      go_wp2_with (first | (refine wpList_store_blk (o := ⟨none, .store 59 _ _, _, _, _, _⟩) rfl 59 _ _ rfl (w.heap.size + 1) #[.string u0, .int .i64 1, .string t, .int .i64 u3, .string u4, .string u5, .string u6, .bool u7, .bool u8] _ rfl rfl isUrl hR7 rfl (by simp [Value.oneCell']) ?_; intro hst) | (refine wpList_store_blk (o := ⟨none, .store 95 _ _, _, _, _, _⟩) rfl 95 _ _ rfl (w.heap.size + 1 + 1) #[.int .i64 0, .int .i64 0, .int .i64 0] _ rfl rfl isWr hE8 rfl (by simp [Value.oneCell']) ?_; intro hst2))
      refine bodyPost_ret (results_cc rfl rfl rfl (hst.setOther (by omega) _) hst2 isUrl isWr) rfl ?_
      exact ⟨rfl, below_setR (below_setR hB7 (by omega) _) (by omega) _⟩
end Go.Proofs.YtibhohpamnpkcaaGreatDoor

/- Of the reference of chapter 14: a web URL's text that has a host's name and a path. -/
namespace Go.Proofs.YtibhohpamnpkcaaGreatDoor
open Go.RowKit

/-- A text is a web URL's, with the scheme's end n, the host's end m, the host's name t, the path p. -/
structure UrlT (s sch : ByteArray) (n m : Nat) (t p : ByteArray) : Prop where
  clean : Clean s
  sch14 : scheme14 s = (sch, ⟨0, 0, 0⟩)
  colon : firstM s 0 ⟨#[58]⟩ = n
  at1 : byteAt s (n + 1) = 47
  at2 : byteAt s (n + 2) = 47
  host : HostT s (n + 3) m t
  stop : firstM s (n + 3) ⟨#[47, 63, 35]⟩ = m
  till : firstM s m ⟨#[63, 35]⟩ = s.size
  path : part14 s m s.size = (p, ⟨0, 0, 0⟩)
  nonempty : p.size ≠ 0
set_option maxHeartbeats 12800000 in
set_option maxRecDepth 100000 in
theorem ref14_Parse_url (s sch : ByteArray) (n m : Nat) (t p : ByteArray) (w : World) (h : UrlT s sch n m t p) :
    Calls Tryz.prog 39 #[.string s] w fun e w' => e = .returned (.tuple #[.agg #[.string sch, .int .i64 1, .string t, .int .i64 (ownN sch), .string p, .string ⟨#[]⟩, .string ⟨#[]⟩, .bool false, .bool false], wrV ⟨0, 0, 0⟩]) ∧ Below w.heap.size w w' := by
  obtain ⟨h1, h2, h3, h4, h5, h6, h7, h8, h9, h10⟩ := h
  have hz := h1.size
  have hm1 := h6.le
  have hm2 := h6.len
  have C1 := Lib.hid (fun W => ref14_checks s W h1)
  have C2 := Lib.hid (fun W => ref14_Scheme s W (by omega))
  rw [h2] at C2
  have C3 := Lib.hid (fun W => ref14_own sch W)
  have C4 := Lib.hid (fun W => ref14_first s ⟨#[58]⟩ 0 W (by omega) (by decide) (Nat.zero_le _))
  have C5 := Lib.hid (fun W => ref14_first s ⟨#[47, 63, 35]⟩ (n + 3) W (by omega) (by decide) (by omega))
  have C6 := Lib.hid (fun W => ref14_authority ⟨sch, 0, ⟨#[]⟩, ownN sch, ⟨#[]⟩, ⟨#[]⟩, ⟨#[]⟩, false, false⟩ s (n + 3) m t W (by omega) h6)
  have C7 := Lib.hid (fun W => ref14_first s ⟨#[63, 35]⟩ m W (by omega) (by decide) (by omega))
  have C8 := Lib.hid (fun W => ref14_part s m s.size W (by omega) (by omega) (Nat.le_refl _))
  rw [h3] at C4
  have q3 : ((n + 3 : Nat) : Int) = (n : Int) + 3 := by omega
  rw [q3] at C5 C6
  clear q3
  rw [h7] at C5
  rw [h8] at C7
  rw [h9] at C8
  have e1 : n + 1 < s.size := by omega
  have e2 : n + 2 < s.size := by omega
  have b1 : ((s[n + 1].toNat : Int) == 47) = true := by
    have := byteAt_el e1
    rw [h4] at this
    rw [← this]; rfl
  have b2 : ((s[n + 2].toNat : Int) == 47) = true := by
    have := byteAt_el e2
    rw [h5] at this
    rw [← this]; rfl
  have pe : p.toList.isEmpty = false := isEmpty_no (by omega)
  have i1 : (n : Int) + 1 + 1 < (s.size : Int) := by omega
  generalize ownN sch = port at *
  have HAL := Lib.hid (below_alloc3 w (.cells urZ 59) (.cells wrZ 95) (.cells urZ 59))
  have HR := Lib.hid (((BlkAt.new w urZ 59).alloc (.cells wrZ 95)).alloc (.cells urZ 59))
  have HE := Lib.hid ((BlkAt.new1 w (.cells urZ 59) wrZ 95).alloc (.cells urZ 59))
  unfold urZ wrZ at HAL HR HE
  clear h1 h2 h3 h4 h5 h6 h7 h8 h9 h10
  go_enter Tryz.func39, Tryz.ntmps39
  go_wp2_with fail
  refine (C1.out _).mono ?_
  rintro e w1 ⟨rfl, hb1⟩
  have hB2 := Bt (Bt HAL.out hb1) (below_alloc w1 (.cells (wrA ⟨0, 0, 0⟩) 95))
  have hR2 := (HR.out.below hb1).alloc (.cells (wrA ⟨0, 0, 0⟩) 95)
  have hE2 := (HE.out.below hb1).alloc (.cells (wrA ⟨0, 0, 0⟩) 95)
  have hW2 := BlkAt.new w1 (wrA ⟨0, 0, 0⟩) 95
  have hlt := (HE.out.below hb1).lt
  clear hb1 HAL HR HE C1
  unfold wrA at hB2 hR2 hE2 hW2
  unfold wrV
  go_wp2_with fail
  refine (C2.out _).mono ?_
  rintro e w3 ⟨rfl, hb3⟩
  have hB3 := Bt hB2 hb3
  have hR3 := hR2.below hb3
  have hE3 := hE2.below hb3
  have hW3 := hW2.below hb3
  clear hb3 hB2 hR2 hE2 hW2 C2
  unfold wrV
  dsimp only
  have ht : w.heap.size + 1 < w1.heap.size := hlt
  generalize hq : w1.heap.size = gw at *
  clear hq hlt
  go_wp2_with (refine wpList_store_blk (o := ⟨none, .store 95 _ _, _, _, _, _⟩) rfl 95 _ _ rfl gw #[.int .i64 0, .int .i64 0, .int .i64 0] _ rfl rfl isWr hW3 rfl (by simp [Value.oneCell']) ?_; intro hW4; have wc := hW4.cell 0 _ rfl)
  have hB4 := below_setR hB3 (show w.heap.size ≤ gw by omega) #[.int .i64 0, .int .i64 0, .int .i64 0]
  have hR4 := hR3.setOther (q := gw) (by omega) #[.int .i64 0, .int .i64 0, .int .i64 0]
  have hE4 := hE3.setOther (q := gw) (by omega) #[.int .i64 0, .int .i64 0, .int .i64 0]
  clear hB3 hR3 hE3 hW3 wc
  generalize w3.setRow gw #[.int .i64 0, .int .i64 0, .int .i64 0] = w4 at *
  refine (C3.out _).mono ?_
  rintro e w5 ⟨rfl, rfl⟩
  have hU5 := BlkAt.new w4 #[.string sch, .int .i64 0, .string ⟨#[]⟩, .int .i64 port, .string ⟨#[]⟩, .string ⟨#[]⟩, .string ⟨#[]⟩, .bool false, .bool false] 59
  have hR5 := hR4.alloc (.cells #[.string sch, .int .i64 0, .string ⟨#[]⟩, .int .i64 port, .string ⟨#[]⟩, .string ⟨#[]⟩, .string ⟨#[]⟩, .bool false, .bool false] 59)
  have hE5 := hE4.alloc (.cells #[.string sch, .int .i64 0, .string ⟨#[]⟩, .int .i64 port, .string ⟨#[]⟩, .string ⟨#[]⟩, .string ⟨#[]⟩, .bool false, .bool false] 59)
  have hW5 := hW4.alloc (.cells #[.string sch, .int .i64 0, .string ⟨#[]⟩, .int .i64 port, .string ⟨#[]⟩, .string ⟨#[]⟩, .string ⟨#[]⟩, .bool false, .bool false] 59)
  have hB5 := Bt hB4 (below_alloc w4 (.cells #[.string sch, .int .i64 0, .string ⟨#[]⟩, .int .i64 port, .string ⟨#[]⟩, .string ⟨#[]⟩, .string ⟨#[]⟩, .bool false, .bool false] 59))
  have ht4 := hW4.lt
  clear hB4 hR4 hE4 hW4 C3
  go_wp2_with fail
  refine (C4.out _).mono ?_
  rintro e w6 ⟨rfl, rfl⟩
  go_wp2_with fail
  refine (C5.out _).mono ?_
  rintro e w6 ⟨rfl, rfl⟩
  go_wp2_with fail
  refine (C6.out _).mono ?_
  rintro e w7 ⟨rfl, hb7⟩
  have hB7 := Bt hB5 hb7
  have hR7 := hR5.below hb7
  have hE7 := hE5.below hb7
  have hW7 := hW5.below hb7
  have hU7 := hU5.below hb7
  clear hb7 hB5 hR5 hE5 hW5 hU5 C4 C5 C6
  unfold wrV
  dsimp only
  generalize hq : w4.heap.size = gu at *
  clear hq
  have hW8 := hW7.setOther (q := gu) (by omega) #[.string sch, .int .i64 1, .string t, .int .i64 port, .string ⟨#[]⟩, .string ⟨#[]⟩, .string ⟨#[]⟩, .bool false, .bool false]
  go_wp2_with (first | (refine wpList_store_blk (o := ⟨none, .store 59 _ _, _, _, _, _⟩) rfl 59 _ _ rfl gu #[.string sch, .int .i64 1, .string t, .int .i64 port, .string ⟨#[]⟩, .string ⟨#[]⟩, .string ⟨#[]⟩, .bool false, .bool false] _ rfl rfl isUrl hU7 rfl (by simp [Value.oneCell']) ?_; intro hU8) | (refine wpList_store_blk (o := ⟨none, .store 95 _ _, _, _, _, _⟩) rfl 95 _ _ rfl gw #[.int .i64 0, .int .i64 0, .int .i64 0] _ rfl rfl isWr hW8 rfl (by simp [Value.oneCell']) ?_; intro hW9; have wc := hW9.cell 0 _ rfl))
  have hB9 := below_setR (below_setR hB7 (show w.heap.size ≤ gu by omega) #[.string sch, .int .i64 1, .string t, .int .i64 port, .string ⟨#[]⟩, .string ⟨#[]⟩, .string ⟨#[]⟩, .bool false, .bool false]) (show w.heap.size ≤ gw by omega) #[.int .i64 0, .int .i64 0, .int .i64 0]
  have hU9 := hU8.setOther (q := gw) (by omega) #[.int .i64 0, .int .i64 0, .int .i64 0]
  have hR9 := (hR7.setOther (q := gu) (by omega) #[.string sch, .int .i64 1, .string t, .int .i64 port, .string ⟨#[]⟩, .string ⟨#[]⟩, .string ⟨#[]⟩, .bool false, .bool false]).setOther (q := gw) (by omega) #[.int .i64 0, .int .i64 0, .int .i64 0]
  have hE9 := (hE7.setOther (q := gu) (by omega) #[.string sch, .int .i64 1, .string t, .int .i64 port, .string ⟨#[]⟩, .string ⟨#[]⟩, .string ⟨#[]⟩, .bool false, .bool false]).setOther (q := gw) (by omega) #[.int .i64 0, .int .i64 0, .int .i64 0]
  clear hB7 hU8 hU7 hR7 hE7 hW7 hW8 wc
  generalize (w7.setRow gu #[.string sch, .int .i64 1, .string t, .int .i64 port, .string ⟨#[]⟩, .string ⟨#[]⟩, .string ⟨#[]⟩, .bool false, .bool false]).setRow gw #[.int .i64 0, .int .i64 0, .int .i64 0] = w9 at *
  refine (C7.out _).mono ?_
  rintro e w10 ⟨rfl, rfl⟩
  go_wp2_with fail
  refine (C8.out _).mono ?_
  rintro e w10 ⟨rfl, hb10⟩
  have hB10 := Bt hB9 hb10
  have hR10 := hR9.below hb10
  have hE10 := hE9.below hb10
  have hW10 := hW9.below hb10
  have hU10 := hU9.below hb10
  clear hb10 hB9 hR9 hE9 hW9 hU9 C7 C8
  unfold wrV
  dsimp only
  have c4 := hU10.cell 4 _ rfl
  have f4 := hU10.frozen 4
  have hW11 := hW10.setCellOther (q := gu) (by omega) 4 (.string p)
  go_upto_region 20 with (refine wpList_store_blk (o := ⟨none, .store 95 _ _, _, _, _, _⟩) rfl 95 _ _ rfl gw #[.int .i64 0, .int .i64 0, .int .i64 0] _ rfl rfl isWr hW11 rfl (by simp [Value.oneCell']) ?_; intro hW12)
  have hU12 := ((hU10.setCell 4 (.string p)).setOther (q := gw) (by omega) #[.int .i64 0, .int .i64 0, .int .i64 0] : BlkAt ((w10.setCell ⟨gu, 4, none⟩ (.string p)).setRow gw #[.int .i64 0, .int .i64 0, .int .i64 0]) gu 59 #[.string sch, .int .i64 1, .string t, .int .i64 port, .string p, .string ⟨#[]⟩, .string ⟨#[]⟩, .bool false, .bool false])
  have hR12 := (hR10.setCellOther (q := gu) (by omega) 4 (.string p)).setOther (q := gw) (by omega) #[.int .i64 0, .int .i64 0, .int .i64 0]
  have hE12 := (hE10.setCellOther (q := gu) (by omega) 4 (.string p)).setOther (q := gw) (by omega) #[.int .i64 0, .int .i64 0, .int .i64 0]
  have hB12 := below_setR (below_setC hB10 (show w.heap.size ≤ gu by omega) 4 (.string p)) (show w.heap.size ≤ gw by omega) #[.int .i64 0, .int .i64 0, .int .i64 0]
  clear c4 f4 hW11 hU10 hR10 hE10 hB10 hW10
  generalize (w10.setCell ⟨gu, 4, none⟩ (.string p)).setRow gw #[.int .i64 0, .int .i64 0, .int .i64 0] = w12 at *
  have wc := hW12.cell 0 _ rfl
  have g0 := hU12.cell 0 _ rfl
  have g1 := hU12.cell 1 _ rfl
  have g2 := hU12.cell 2 _ rfl
  have g3 := hU12.cell 3 _ rfl
  have g4 := hU12.cell 4 _ rfl
  have g5 := hU12.cell 5 _ rfl
  have g6 := hU12.cell 6 _ rfl
  have g7 := hU12.cell 7 _ rfl
  have g8 := hU12.cell 8 _ rfl
  have i5 : ¬ (s.size : Int) < (s.size : Int) := by omega
  have hE13 := hE12.setOther (q := w.heap.size) (by omega) #[.string sch, .int .i64 1, .string t, .int .i64 port, .string p, .string ⟨#[]⟩, .string ⟨#[]⟩, .bool false, .bool false]
  clear hU12 hW12
  go_wp2_with (first | (refine wpList_store_blk (o := ⟨none, .store 59 _ _, _, _, _, _⟩) rfl 59 _ _ rfl w.heap.size #[.string sch, .int .i64 1, .string t, .int .i64 port, .string p, .string ⟨#[]⟩, .string ⟨#[]⟩, .bool false, .bool false] _ rfl rfl isUrl hR12 rfl (by simp [Value.oneCell']) ?_; intro hst) | (refine wpList_store_blk (o := ⟨none, .store 95 _ _, _, _, _, _⟩) rfl 95 _ _ rfl (w.heap.size + 1) #[.int .i64 0, .int .i64 0, .int .i64 0] _ rfl rfl isWr hE13 rfl (by simp [Value.oneCell']) ?_; intro hst2))
  refine bodyPost_ret (results_cc rfl rfl rfl (hst.setOther (by omega) _) hst2 isUrl isWr) rfl ?_
  exact ⟨rfl, below_setR (below_setR hB12 (Nat.le_refl _) _) (by omega) _⟩
end Go.Proofs.YtibhohpamnpkcaaGreatDoor

/- The first rule that a URL is as it wants; is an app among some. -/
namespace Go.Proofs.YtibhohpamnpkcaaGreatDoor
open Go.RowKit

theorem RulesSl.rule {w : World} {a : Option Addr} {l : List Ru} (h : RulesSl w a l) (hz : ∀ x ∈ l, RuZ x) {x : Ru} (hx : x ∈ l) : RuleIn w x := by
  obtain ⟨i, hi⟩ := List.getElem?_of_mem hx
  obtain ⟨b, off, e, hlt, h1, h2, h3⟩ := h i x hi
  exact ⟨h2, h3, hz x hx⟩
set_option maxHeartbeats 1600000 in
theorem seen_wanted (x : Ru) (u : Ur) (av : Option Addr) (vcap : Nat) (vars : List SVar) (w : World) (hw : Looks w av vars) (hH : Handle w) (hx : RuleIn w x) (hu : UrZ u) :
    Calls Tryz.prog 62 #[.agg #[.slice av vars.length vcap, .string u.scheme, .int .i64 u.hk, .string u.host, .int .i64 u.port, .string u.path, .string u.query, .string u.frag, .bool u.hq, .bool u.hf], .agg #[.string x.r.path, .string x.r.query, .string x.r.frag, .bool x.r.hp, .bool x.r.hq, .bool x.r.hf, .slice x.r.ia x.r.ilen x.r.icap, .bool x.r.ex, .bool x.r.fold, .bool x.r.dec]] w fun e w' => e = .returned (.bool (ruleP vars u x)) ∧ Below w.heap.size w w' := by
  have CM := Lib.hid (fun W (hW : Below w.heap.size w W) => route_Matches x u av vcap vars W (hw.below hW) (hH.below hW) (hx.below hW) hu)
  obtain ⟨⟨f0, f1, f2, f3, f4, f5, f6, ln, f7, f8, f9, f10⟩, items⟩ := x
  obtain ⟨u0, u1, u2, u3, u4, u5, u6, u7, u8⟩ := u
  dsimp only at CM ⊢
  generalize ruleP vars _ _ = k at *
  generalize vars.length = vn at *
  have hal : Below w.heap.size w ((w.alloc (.cells #[.slice av vn vcap, .string u0, .int .i64 u1, .string u2, .int .i64 u3, .string u4, .string u5, .string u6, .bool u7, .bool u8] 136)).alloc (.cells #[.string f0, .string f1, .string f2, .bool f3, .bool f4, .bool f5, .slice f6 ln f7, .bool f8, .bool f9, .bool f10] 62)) := ((Below.refl _ _).alloc (Nat.le_refl _) _).alloc (by simp) _
  have C := Lib.hid (CM.out _ hal)
  have HAL := Lib.hid hal
  clear hal CM hw hH hx hu
  go_enter Tryz.func62, Tryz.ntmps62
  go_wp2_with fail
  refine C.out.mono ?_
  rintro e w2 ⟨rfl, hb⟩
  have hb2 := Bt HAL.out hb
  go_wp2_with fail
  go_ret
  exact ⟨rfl, hb2⟩
/-- A test of rules by a bound method. -/
def TestRu (w : World) (f : FuncId) (first : Array Value) (P : Ru → Bool) (l : List Ru) : Prop := ∀ (W : World) (x : Ru), x ∈ l → Below w.heap.size w W → Calls Tryz.prog f (first ++ #[.agg #[.string x.r.path, .string x.r.query, .string x.r.frag, .bool x.r.hp, .bool x.r.hq, .bool x.r.hf, .slice x.r.ia x.r.ilen x.r.icap, .bool x.r.ex, .bool x.r.fold, .bool x.r.dec]]) W fun e w' => e = .returned (.bool (P x)) ∧ Below W.heap.size W w'
set_option maxHeartbeats 1600000 in
set_option maxRecDepth 100000 in
theorem rules_IndexFunc (a : Option Addr) (cap : Nat) (l : List Ru) (f : FuncId) (s0 : Value) (P : Ru → Bool) (w : World) (hsl : RulesSl w a l) (hl : l.length ≤ 16777216) (eg : ∀ args w, (callFunc f args).run Tryz.prog w = .ok (.enter f args) w) (hf : TestRu w f #[s0] P l) :
    Calls Tryz.prog 61 #[.slice a l.length cap, .func (.func f) #[s0] #[]] w fun e w' => e = .returned (.int .i64 (findG P l)) ∧ Below w.heap.size w w' := by
  have hF := Lib.hid hf
  have HSL := Lib.hid hsl
  clear hf hsl
  go_enter Tryz.func61, Tryz.ntmps61
  go_wp2_with fail
  go_loopw [8] (fun x wr => ∃ i : Nat, i ≤ l.length ∧ x = .int .i64 i ∧ Below w.heap.size w wr ∧ ∀ (j : Nat) (y : Ru), j < i → l[j]? = some y → P y = false) (fun x _ => l.length - (intOf x).toNat)
  case atStart => exact ⟨0, Nat.zero_le _, rfl, Below.refl _ _, fun j y h => by omega⟩
  case round =>
    obtain ⟨i, hil, rfl, hbr, hall⟩ := hrel
    have HA := Lib.hid hall
    clear hall
    by_cases hlt : i < l.length
    · obtain ⟨x, hx⟩ : ∃ x, l[i]? = some x := ⟨_, List.getElem?_eq_getElem hlt⟩
      obtain ⟨b, off, rfl, hb, d, -, -⟩ := (HSL.out.below hbr) i x hx
      have d0 := d 0 _ rfl
      have d1 := d 1 _ rfl
      have d2 := d 2 _ rfl
      have d3 := d 3 _ rfl
      have d4 := d 4 _ rfl
      have d5 := d 5 _ rfl
      have d6 := d 6 _ rfl
      have d7 := d 7 _ rfl
      have d8 := d 8 _ rfl
      have d9 := d 9 _ rfl
      rw [Nat.add_zero] at d0
      have hhit := fun h => findG_hit hx h HA.out
      have hst : P x = false → ∀ (j : Nat) (y : Ru), j < i + 1 → l[j]? = some y → P y = false := fun h j y hj hy => by
        by_cases hji : j = i
        · subst hji; rw [hx] at hy; cases hy; exact h
        · exact HA.out j y (by omega) hy
      have HHIT := Lib.hid hhit
      have HST := Lib.hid hst
      have cF := Lib.hid (hF.out wr x (List.mem_of_getElem? hx) hbr)
      have hiI : (i : Int) < (l.length : Int) := by omega
      clear hhit hst hx HA hF d
      generalize P x = r at *
      obtain ⟨⟨f0, f1, f2, f3, f4, f5, f6, ln, f7, f8, f9, f10⟩, items⟩ := x
      dsimp only at d0 d1 d2 d3 d4 d5 d6 d7 d8 d9 cF
      go_wp2_with fail
      refine cF.out.mono ?_
      rintro e w2 ⟨rfl, hb2⟩
      have hbr2 := Bt hbr hb2
      cases r
      · have HX := Lib.hid (HST.out rfl)
        go_wp2_with fail
        go_roundw
        case rel => exact ⟨i + 1, by omega, by go_num, hbr2, HX.out⟩
        case measure => simp [intOf]; omega
      · have HX := Lib.hid (HHIT.out rfl)
        go_wp2_with fail
        go_ret
        exact ⟨ret_i64 HX.out.symm, hbr2⟩
    · obtain rfl : i = l.length := by omega
      have hn : findG P l = -1 := findG_none fun j y hy => HA.out j y (List.getElem?_eq_some_iff.1 hy).1 hy
      have HN := Lib.hid hn
      clear hn
      go_wp2_with fail
      go_ret
      exact ⟨ret_i64 HN.out.symm, hbr⟩
theorem eq_app (a b c d : ByteArray) (w : World) : (binOp .eql 57 (.agg #[.string a, .string b]) (.agg #[.string c, .string d])).run Tryz.prog w = .ok (.bool (decide ((a, b) = (c, d)))) w := by
  have u9 := Tryz.underlying9
  have z9 := Tryz.sizeOf9
  have a9 := Tryz.isAgg9
  have hS : Tryz.prog.underlying 57 = some (.struct (Tryz.prog.fieldsOf 57)) := by kernel_rfl
  have hp : Tryz.prog.stoodInHeld 57 = false := by kernel_rfl
  rw [run_eql_struct, show (10000 : Nat) = 9999 + 1 from rfl, run_equalIn_agg w 9999 57 _ _ hS hp]
  simp only [Program.fieldsOf, Tryz.underlying57]
  go_simp
  simp only [toList_eqB]
  by_cases h1 : a = c
  · by_cases h2 : b = d
    · simp [h1, h2]
    · simp [h1, h2]
  · simp [h1]
set_option maxHeartbeats 1600000 in
set_option maxRecDepth 100000 in
theorem apps_Index (a : Option Addr) (cap : Nat) (l : List (ByteArray × ByteArray)) (p : ByteArray × ByteArray) (w : World) (hsl : AppsSl w a l) (hl : l.length ≤ 16777216) :
    Calls Tryz.prog 64 #[.slice a l.length cap, .agg #[.string p.1, .string p.2]] w fun e w' => e = .returned (.int .i64 (findG (fun x => decide (x = p)) l)) ∧ Below w.heap.size w w' := by
  obtain ⟨pa, pb⟩ := p
  dsimp only
  have HSL := Lib.hid hsl
  have hal : Below w.heap.size w (w.alloc (.cells #[.string pa, .string pb] 57)) := (Below.refl _ _).alloc (Nat.le_refl _) _
  have hP : (w.alloc (.cells #[.string pa, .string pb] 57)).heap[w.heap.size]? = some (.cells #[.string pa, .string pb] 57 (0, 0)) := heap_alloc_new w _
  have HAL := Lib.hid hal
  have HPP := Lib.hid hP
  clear hsl hal hP
  go_enter Tryz.func64, Tryz.ntmps64
  go_wp2_with fail
  go_loopw [8] (fun x wr => ∃ i m : Nat, i ≤ l.length ∧ x = .int .i64 i ∧ (w.alloc (.cells #[.string pa, .string pb] 57)).drewN m = wr ∧ ∀ (j : Nat) (y : ByteArray × ByteArray), j < i → l[j]? = some y → decide (y = (pa, pb)) = false) (fun x _ => l.length - (intOf x).toNat)
  case atStart => exact ⟨0, 0, Nat.zero_le _, rfl, rfl, fun j y h => by omega⟩
  case round =>
    obtain ⟨i, m, hil, rfl, rfl, hall⟩ := hrel
    have HA := Lib.hid hall
    clear hall
    by_cases hlt : i < l.length
    · obtain ⟨x, hx⟩ : ∃ x, l[i]? = some x := ⟨_, List.getElem?_eq_getElem hlt⟩
      obtain ⟨b, off, rfl, hb, d0, d1⟩ := (HSL.out.below HAL.out) i x hx
      have p0 : (w.alloc (.cells #[.string pa, .string pb] 57)).cell? ⟨w.heap.size, 0, none⟩ = some (.string pa) := (cell_of_row _ _ 0 _ _ _ HPP.out).trans rfl
      have p1 : (w.alloc (.cells #[.string pa, .string pb] 57)).cell? ⟨w.heap.size, 1, none⟩ = some (.string pb) := (cell_of_row _ _ 1 _ _ _ HPP.out).trans rfl
      have hhit : decide (x = (pa, pb)) = true → findG (fun x => decide (x = (pa, pb))) l = (i : Int) := fun h => findG_hit hx h HA.out
      have hst : decide (x = (pa, pb)) = false → ∀ (j : Nat) (y : ByteArray × ByteArray), j < i + 1 → l[j]? = some y → decide (y = (pa, pb)) = false := fun h j y hj hy => by
        by_cases hji : j = i
        · subst hji; rw [hx] at hy; cases hy; exact h
        · exact HA.out j y (by omega) hy
      have hes : decide ((pa, pb) = x) = decide (x = (pa, pb)) := by
        rw [Bool.eq_iff_iff, decide_eq_true_iff, decide_eq_true_iff]
        exact eq_comm
      have HHIT := Lib.hid hhit
      have HST := Lib.hid hst
      have hiI : (i : Int) < (l.length : Int) := by omega
      obtain ⟨xa, xb⟩ := x
      dsimp only at d0 d1
      have hcm := fun W => eq_app pa pb xa xb W
      rw [hes] at hcm
      clear hhit hst hx HA hes hlt
      generalize decide ((xa, xb) = (pa, pb)) = r at *
      cases r
      · have HX := Lib.hid (HST.out rfl)
        clear HST HHIT
        go_wp2_with fail
        go_quiet (fail)
        go_wp2_with fail
        go_roundw
        case rel => exact ⟨i + 1, _, by omega, by go_num, rfl, HX.out⟩
        case measure => simp [intOf]; omega
      · have HX := Lib.hid (HHIT.out rfl)
        clear HST HHIT
        go_wp2_with fail
        go_quiet (fail)
        go_wp2_with fail
        go_ret
        exact ⟨ret_i64 HX.out.symm, below_drewN (below_drewN HAL.out _) _⟩
    · obtain rfl : i = l.length := by omega
      have hn : findG (fun x => decide (x = (pa, pb))) l = -1 := findG_none fun j y hy => HA.out j y (List.getElem?_eq_some_iff.1 hy).1 hy
      have HN := Lib.hid hn
      clear hn
      go_wp2_with fail
      go_ret
      exact ⟨ret_i64 HN.out.symm, below_drewN HAL.out _⟩
set_option maxHeartbeats 800000 in
theorem apps_Contains (a : Option Addr) (cap : Nat) (l : List (ByteArray × ByteArray)) (p : ByteArray × ByteArray) (w : World) (hsl : AppsSl w a l) (hl : l.length ≤ 16777216) :
    Calls Tryz.prog 43 #[.slice a l.length cap, .agg #[.string p.1, .string p.2]] w fun e w' => e = .returned (.bool (amongB p l)) ∧ Below w.heap.size w w' := by
  have cI := Lib.hid (fun W (hW : Below w.heap.size w W) => apps_Index a cap l p W (hsl.below hW) hl)
  have HA := Lib.hid (findG_any (fun x => decide (x = p)) l)
  have HB := Lib.hid (show l.any (fun x => decide (x = p)) = amongB p l from rfl)
  rw [HB.out] at HA
  obtain ⟨pa, pb⟩ := p
  dsimp only at cI ⊢
  generalize findG _ l = i at *
  generalize amongB _ l = ok at *
  clear hsl HB
  have hal : Below w.heap.size w (w.alloc (.cells #[.string pa, .string pb] 57)) := (Below.refl _ _).alloc (Nat.le_refl _) _
  have HAL := Lib.hid hal
  clear hal
  go_enter Tryz.func43, Tryz.ntmps43
  go_wp2_with fail
  refine (cI.out _ HAL.out).mono ?_
  rintro e w2 ⟨rfl, hb2⟩
  have hb := Bt HAL.out hb2
  go_wp2_with fail
  go_ret
  exact ⟨ret_bool HA.out, hb⟩
end Go.Proofs.YtibhohpamnpkcaaGreatDoor
