/- percent.Right, Decode, Normal, Plain, written. -/
import Derived.Test.YteabhblbefglpaaDoorFreshLessM7
import Derived.Test.YteabhblbefglpaaDoorFreshLessM1
import Derived.Lib.DecodeNEq
import Derived.Shelf.Unicode.DecodeSlow
import Derived.Test.YteabhblbefglpaaDoorFreshLessM3
import Derived.Test.YteabhblbefglpaaDoorFreshLessM2
import Derived.Test.YteabhblbefglpaaDoorFreshLessM5

namespace Go.Proofs.YteabhblbefglpaaDoor
open Go.RowKit


/-- A variable in block b holds bytes of the call's own, from B on. -/
def VarB (w : World) (B b : Nat) (l : List UInt8) : Prop := b < B ∧ ∃ v, w.heap[b]? = some (.cells #[v] 23 (0, 0)) ∧ OwnB w B v l
theorem VarB.below {w w' : World} {B b : Nat} {l : List UInt8} (h : VarB w B b l) (hb : Below w.heap.size w w') : VarB w' B b l := by
  obtain ⟨h1, v, h2, h3⟩ := h
  exact ⟨h1, v, (hb.block b (lt_of_block h2)).trans h2, h3.below hb⟩
theorem OwnB.lt {w : World} {base : Nat} {v : Value} {l : List UInt8} (h : OwnB w base v l) (k : Nat) (hk : v.ownBlock = some k) : base ≤ k ∧ k < w.heap.size := World.ownsRow.lt h k hk
theorem OwnB.setOther {w : World} {B b : Nat} {v : Value} {l : List UInt8} (h : OwnB w B v l) (hb : b < B) (j : Nat) (u : Value) : OwnB (w.setCell ⟨b, j, none⟩ u) B v l := by
  unfold OwnB
  refine World.ownsRow.kept (row := some b) h ⟨rfl, rfl, rfl, by simp [World.setCell], fun k _ hk => Below.heap_setCell _ _ _ _ (fun e => hk (by simp [e]))⟩ (.inr fun e => ?_)
  have := (h.lt b e).1
  omega
set_option maxHeartbeats 1600000 in
theorem decode_fn (B b : Nat) (l : List UInt8) (c : UInt8) (esc : Bool) (w : World) (h : VarB w B b l) (hl : l.length ≤ 268435456) (hB : B ≤ w.heap.size) :
    Calls Tryd.prog 156 #[.int .u8 (c.toNat : Int), .bool esc, .pointer (some ⟨b, 0, none⟩)] w fun e w' => e = .returned (.tuple #[]) ∧ VarB w' B b (l ++ [c]) ∧ ButB B b w w' := by
  obtain ⟨h1, v, h2, h3⟩ := h
  have hlt := lt_of_block h2
  have c0 : w.cell? ⟨b, 0, none⟩ = some v := by rw [cell_of_row w b 0 _ _ _ h2]; rfl
  go_enter Tryd.func156, Tryd.ntmps156
  have hbf : Below w.heap.size w (w.alloc (.cells #[byteV c] 5)) := (Below.refl _ _).alloc (Nat.le_refl _) _
  have hown2 := h3.below hbf
  have hy : BytesSl (w.alloc (.cells #[byteV c] 5)) (.slice (some ⟨w.heap.size, 0, none⟩) 1 1) ⟨#[c]⟩ := BytesSl.lit w [c] _ 1 rfl rfl (by simp)
  go_wp2_with (at_builtin; refine wpList_app_bytes rfl _ _ rfl B _ _ rfl hown2 _ ⟨#[c]⟩ rfl hy (by show l.length + 1 ≤ _; omega) (by simp; omega) ?_)
  intro v3 w3 hown3 hgr
  have hne : v.ownBlock ≠ some b := fun e => by have := (h3.lt b e).1; omega
  have hb3 : w3.heap[b]? = some (.cells #[v] 23 (0, 0)) := by
    have hbf' : Below w.heap.size w (w.alloc (.cells #[.int .u8 (c.toNat : Int)] 5)) := hbf
    rw [hgr.block b (by simp; omega) (fun e => hne e.symm), hbf'.block b hlt]
    exact h2
  have d0 : w3.cell? ⟨b, 0, none⟩ = some v := by rw [cell_of_row w3 b 0 _ _ _ hb3]; rfl
  have f0 : w3.frozen? ⟨b, 0, none⟩ = false := by simp [World.frozen?, hb3]
  have hbe : ButB B b w (w3.setCell ⟨b, 0, none⟩ v3) := (ButB.of_below ((hbf.mono hB).grown hgr (by simp; omega) (fun k hk => (h3.lt k hk).1))).setCell 0 v3
  have hown4 := hown3.setOther h1 0 v3
  have hcell : (w3.setCell ⟨b, 0, none⟩ v3).heap[b]? = some (.cells #[v3] 23 (0, 0)) := by simp [World.setCell, Array.getElem?_modify, hb3]
  obtain ⟨a3, n3, c3, e3⟩ : ∃ a n c, v3 = .slice a n c := by
    rcases hown3.shape with ⟨_, e⟩ | ⟨g, cap, e, _⟩
    · exact ⟨_, _, _, e⟩
    · exact ⟨_, _, _, e⟩
  subst e3
  clear hown3 hgr hown2 hy hbf
  go_wp2_with fail
  go_end0
  exact ⟨rfl, ⟨h1, _, hcell, hown4⟩, hbe⟩

def bytesT (s : ByteArray) : List UInt8 := (told s).1.map (·.1)
def DecodePost (s : ByteArray) (w : World) (e : Ending) (w' : World) : Prop := Below w.heap.size w w' ∧ (((told s).2 = none ∧ ∃ v, e = .returned (.tuple #[v, .nilIface]) ∧ OwnB w' w.heap.size v (bytesT s)) ∨ (∃ i, (told s).2 = some i ∧ ∃ v, e = .returned (.tuple #[.slice none 0 0, v]) ∧ IsFault w' v 11 i))
set_option maxHeartbeats 1600000 in
theorem percent_Decode (s : ByteArray) (w : World) (hs : s.size ≤ 16777216) : Calls Tryd.prog 126 #[.string s] w (DecodePost s w) := by
  have hnew : (w.alloc (.cells #[.slice none 0 0] 23)).heap[w.heap.size]? = some (.cells #[.slice none 0 0] 23 (0, 0)) := heap_alloc_new w _
  have hE := each_Decode w.heap.size s hs (fun L wr => VarB wr (w.heap.size + 1) w.heap.size (L.map (·.1)) ∧ ButB (w.heap.size + 1) w.heap.size (w.alloc (.cells #[.slice none 0 0] 23)) wr)
    (fun _ _ _ h hb => ⟨h.1.below hb, h.2.trans (ButB.of_below (hb.mono (by have := h.2.size; simpa using this)))⟩)
    (fun L c esc wr h hL => (decode_fn _ _ _ c esc wr h.1 (by simp; omega) (by have := h.2.size; simpa using this)).mono fun _ _ ⟨a, b, d⟩ => ⟨a, by simpa using b, h.2.trans d⟩)
    (w.alloc (.cells #[.slice none 0 0] 23)) ⟨⟨by omega, _, hnew, OwnB.nil _ _⟩, ButB.refl _ _ _⟩
  have HE := Lib.hid hE
  clear hE hnew
  go_enter Tryd.func126, Tryd.ntmps126
  go_wp2_with fail
  refine HE.out.mono ?_
  rintro e w1 ⟨⟨hv, hbu⟩, h⟩
  obtain ⟨_, v, h2, h3⟩ := hv
  have hb : Below w.heap.size w w1 := ((Below.refl w.heap.size w).alloc (Nat.le_refl _) _).trans (hbu.below (Nat.le_refl _) (by omega))
  have c0 : w1.cell? ⟨w.heap.size, 0, none⟩ = some v := by rw [cell_of_row w1 w.heap.size 0 _ _ _ h2]; rfl
  have hown : OwnB w1 w.heap.size v (bytesT s) := h3.base' (by omega)
  have HO := Lib.hid hown
  clear h2 h3 hbu hown
  rcases h with ⟨hn, rfl⟩ | ⟨i, hi, u, rfl, hu⟩
  · have HN := Lib.hid hn
    clear hn
    go_wp2_with fail
    go_ret2
    exact ⟨hb, .inl ⟨HN.out, v, rfl, HO.out⟩⟩
  · obtain ⟨q, rfl⟩ := hu.ne_nil
    have HN := Lib.hid hi
    clear hi
    go_wp2_with fail
    go_ret2
    exact ⟨hb, .inr ⟨i, HN.out, _, rfl, hu⟩⟩

end Go.Proofs.YteabhblbefglpaaDoor

/- Plain facts on UTF-8: the character at a place of a text. -/
namespace Go.Proofs.YteabhblbefglpaaDoor

/-- What Go's decoder tells of a place. -/
def decB (s : ByteArray) (i : Nat) : Nat × Nat := Lib.decodeN (s.size - i) (byteAt s i).toNat (byteAt s (i + 1)).toNat (byteAt s (i + 2)).toNat (byteAt s (i + 3)).toNat
/-- A character stands at a place. -/
def okB (s : ByteArray) (i : Nat) : Bool := decide (decB s i ≠ (65533, 1))
/-- A number is a character. -/
def rightC (n : Nat) : Prop := n < 55296 ∨ (57344 ≤ n ∧ n ≤ 1114111)

theorem byteAt_get (s : ByteArray) (i : Nat) : s.get! i = byteAt s i := by
  unfold byteAt ByteArray.get!
  simp [List.getD, Array.getElem!_eq_getD, Array.getD_eq_getD_getElem?]
  rfl

theorem decodeN_bounds (n b0 b1 b2 b3 : Nat) (hn : 0 < n) (h0 : b0 < 256) : 1 ≤ (Lib.decodeN n b0 b1 b2 b3).2 ∧ (Lib.decodeN n b0 b1 b2 b3).2 ≤ 4 ∧ (Lib.decodeN n b0 b1 b2 b3).2 ≤ n ∧ rightC (Lib.decodeN n b0 b1 b2 b3).1 := by
  unfold Lib.decodeN rightC
  repeat' split
  all_goals (simp only []; omega)

theorem decB_bounds (s : ByteArray) (i : Nat) (hi : i < s.size) : 1 ≤ (decB s i).2 ∧ (decB s i).2 ≤ 4 ∧ i + (decB s i).2 ≤ s.size ∧ rightC (decB s i).1 := by
  have := decodeN_bounds (s.size - i) (byteAt s i).toNat (byteAt s (i + 1)).toNat (byteAt s (i + 2)).toNat (byteAt s (i + 3)).toNat (by omega) (byteAt s i).toNat_lt
  change 1 ≤ (decB s i).2 ∧ (decB s i).2 ≤ 4 ∧ (decB s i).2 ≤ s.size - i ∧ rightC (decB s i).1 at this
  obtain ⟨a, b, c, d⟩ := this
  exact ⟨a, b, by omega, d⟩

theorem byteAt_extract (s : ByteArray) (i j : Nat) (_ : i + j < s.size) : byteAt (s.extract i s.size) j = byteAt s (i + j) := by
  unfold byteAt
  rw [Lib.extract_data, List.take_of_length_le (by simp)]
  simp [List.getD]
theorem byteAt_out (s : ByteArray) (j : Nat) (h : s.size ≤ j) : byteAt s j = 0 := by
  unfold byteAt
  rw [List.getD, List.getElem?_eq_none (by exact h)]
  rfl
theorem extract_tail_size (s : ByteArray) (i : Nat) (h : i ≤ s.size) : (s.extract i s.size).size = s.size - i := by
  rw [ByteArray.size_extract]; omega

theorem decodeGo_extract (s : ByteArray) (i : Nat) (hi : i < s.size) : Lib.decodeGo (s.extract i s.size) = decB s i := by
  have hsz := extract_tail_size s i (by omega)
  have hb : ∀ j, byteAt (s.extract i s.size) j = byteAt s (i + j) := fun j => by
    by_cases h : i + j < s.size
    · exact byteAt_extract s i j h
    · rw [byteAt_out _ _ (by rw [hsz]; omega), byteAt_out _ _ (by omega)]
  rw [Lib.decodeGo, if_neg (by omega), Lib.decode_at, hsz, Nat.sub_zero]
  simp only [byteAt_get, hb, Nat.zero_add, decB, Nat.add_zero]

/-- The characters from a place on, and the place at which none stands. -/
def chrsFrom (s : ByteArray) : Nat → Nat → List Nat × Option Nat
  | 0, _ => ([], none)
  | f + 1, i => if i < s.size then (if okB s i = true then ((decB s i).1 :: (chrsFrom s f (i + (decB s i).2)).1, (chrsFrom s f (i + (decB s i).2)).2) else ([], some i)) else ([], none)
/-- A text's characters, and the place at which none stands. -/
def chrs (s : ByteArray) : List Nat × Option Nat := chrsFrom s s.size 0

/-- So many characters have been read, up to a place. -/
def Reach (s : ByteArray) (l : List Nat) (i : Nat) : Prop := ∃ f, s.size - i ≤ f ∧ l.length ≤ i ∧ chrs s = (l ++ (chrsFrom s f i).1, (chrsFrom s f i).2)
theorem Reach.zero (s : ByteArray) : Reach s [] 0 := ⟨s.size, by omega, by simp, by simp [chrs]⟩
theorem Reach.step {s : ByteArray} {l : List Nat} {i : Nat} (h : Reach s l i) (hi : i < s.size) (ho : okB s i = true) : Reach s (l ++ [(decB s i).1]) (i + (decB s i).2) := by
  obtain ⟨f, hf, hl, e⟩ := h
  have hd := decB_bounds s i hi
  cases f with
  | zero => omega
  | succ f =>
    rw [chrsFrom, if_pos hi, if_pos ho] at e
    exact ⟨f, by omega, by simp; omega, by simpa using e⟩
theorem Reach.bad {s : ByteArray} {l : List Nat} {i : Nat} (h : Reach s l i) (hi : i < s.size) (ho : okB s i = false) : chrs s = (l, some i) := by
  obtain ⟨f, hf, hl, e⟩ := h
  cases f with
  | zero => omega
  | succ f =>
    rw [chrsFrom, if_pos hi, if_neg (by simp [ho])] at e
    simpa using e
theorem Reach.done {s : ByteArray} {l : List Nat} {i : Nat} (h : Reach s l i) (hi : ¬ i < s.size) : chrs s = (l, none) := by
  obtain ⟨f, hf, hl, e⟩ := h
  cases f with
  | zero => rw [chrsFrom] at e; simpa using e
  | succ f =>
    rw [chrsFrom, if_neg hi] at e
    simpa using e
end Go.Proofs.YteabhblbefglpaaDoor

/- Queries' items: plain facts. -/
namespace Go.Proofs.YteabhblbefglpaaDoor
open Go.RowKit

def okS (l : List UInt8) : Bool := (chrs (ofL l)).2.isNone
/-- The item of a part, or the error's kind and place. -/
def itemP (p : ByteArray) : Except (Nat × Nat) It :=
  match (told (cutN 61 p)).2 with
  | some i => .error (11, i)
  | none => match (told (cutV 61 p)).2 with
    | some i => .error (11, (cutN 61 p).size + 1 + i)
    | none => if okS (bytesT (cutN 61 p)) = true ∧ okS (bytesT (cutV 61 p)) = true then .ok ⟨ofL (bytesT (cutN 61 p)), ofL (bytesT (cutV 61 p)), cutH 61 p⟩ else .error (12, 0)
theorem itemP_bad1 {p : ByteArray} {i : Nat} (h : (told (cutN 61 p)).2 = some i) : itemP p = .error (11, i) := by unfold itemP; rw [h]
theorem itemP_bad2 {p : ByteArray} {i : Nat} (h0 : (told (cutN 61 p)).2 = none) (h : (told (cutV 61 p)).2 = some i) : itemP p = .error (11, (cutN 61 p).size + 1 + i) := by unfold itemP; rw [h0, h]
theorem itemP_utf {p : ByteArray} (h0 : (told (cutN 61 p)).2 = none) (h1 : (told (cutV 61 p)).2 = none) (h : ¬ (okS (bytesT (cutN 61 p)) = true ∧ okS (bytesT (cutV 61 p)) = true)) : itemP p = .error (12, 0) := by unfold itemP; rw [h0, h1]; exact if_neg h
theorem itemP_ok {p : ByteArray} (h0 : (told (cutN 61 p)).2 = none) (h1 : (told (cutV 61 p)).2 = none) (h : okS (bytesT (cutN 61 p)) = true ∧ okS (bytesT (cutV 61 p)) = true) : itemP p = .ok ⟨ofL (bytesT (cutN 61 p)), ofL (bytesT (cutV 61 p)), cutH 61 p⟩ := by unfold itemP; rw [h0, h1]; exact if_pos h
theorem itemP_kind {p : ByteArray} {k i : Nat} (h : itemP p = .error (k, i)) : k = 11 ∨ k = 12 := by
  unfold itemP at h
  split at h
  · cases h; exact .inl rfl
  · split at h
    · cases h; exact .inl rfl
    · split at h
      · cases h
      · cases h; exact .inr rfl

/-- What a part of a query gives. -/
def stepQ : StepG := fun p full => if p.size = 0 then none else if full = true then some (.error (15, 0)) else some (itemP p)
theorem stepQ_right : RightG stepQ where
  kind := by
    intro p b k i h
    unfold stepQ at h
    split at h
    · cases h
    · split at h
      · cases h; decide
      · have := itemP_kind (Option.some.inj h); omega
  none := by
    intro p b b' h
    unfold stepQ at h ⊢
    split at h
    · next h0 => rw [if_pos h0]
    · split at h <;> cases h
  full := by
    intro p x h
    unfold stepQ at h
    split at h
    · cases h
    · cases h
theorem stepQ_empty {p : ByteArray} {b : Bool} (h : p.size = 0) : stepQ p b = none := by unfold stepQ; rw [if_pos h]
theorem stepQ_many {p : ByteArray} (h : p.size ≠ 0) : stepQ p true = some (.error (15, 0)) := by unfold stepQ; rw [if_neg h, if_pos rfl]
theorem stepQ_item {p : ByteArray} (h : p.size ≠ 0) : stepQ p false = some (itemP p) := by unfold stepQ; rw [if_neg h, if_neg (by decide)]
def itemsQ (s : ByteArray) : List It × Nat × Nat := goG stepQ 256 (partsB 38 s) 0 []
end Go.Proofs.YteabhblbefglpaaDoor

/- query.decode. -/
namespace Go.Proofs.YteabhblbefglpaaDoor
open Go.RowKit

def QDecPost (s : ByteArray) (a : Nat) (w : World) (e : Ending) (w' : World) : Prop := Below w.heap.size w w' ∧ (((told s).2 = none ∧ e = .returned (.tuple #[.string (ofL (bytesT s)), .nilIface])) ∨ (∃ i n, (told s).2 = some i ∧ ∃ v, e = .returned (.tuple #[.string ⟨#[]⟩, v]) ∧ FaultIs w' v 11 ((a + i : Nat) : Int) n))
set_option maxHeartbeats 1600000 in
set_option maxRecDepth 100000 in
theorem query_decode (s : ByteArray) (a : Nat) (w : World) (hg : Handle w) (hs : s.size ≤ 16777216) (ha : a ≤ 16777216) (ht : ∀ i, (told s).2 = some i → i ≤ 16777216) : Calls Tryd.prog 88 #[.string s, .int .i64 (a : Int)] w (QDecPost s a w) := by
  have cD := Lib.hid (fun W => percent_Decode s W hs)
  have HT := Lib.hid ht
  clear ht
  go_enter Tryd.func88, Tryd.ntmps88
  go_wp2_with fail
  refine (cD.out _).mono ?_
  rintro e w1 ⟨hb1, h⟩
  have hg1 := hg.below hb1
  rcases h with ⟨hn, v, rfl, hown⟩ | ⟨i, hi, v, rfl, hv⟩
  · have hown2 := hown.below ((Below.refl w1.heap.size w1).alloc (Nat.le_refl _) (.cells #[.pointer none] 77))
    have hb2 : Below w.heap.size w (w1.alloc (.cells #[.pointer none] 77)) := hb1.alloc hb1.size _
    have hconv := hown2.conv
    have HN := Lib.hid hn
    clear hn hown
    go_wp2_with fail
    refine (as_nil _ _).mono ?_
    rintro e w2 ⟨rfl, rfl⟩
    go_wp2_with fail
    go_ret2
    exact ⟨hb2, .inl ⟨HN.out, rfl⟩⟩
  · obtain ⟨b, rfl, hblk⟩ := id hv
    have hlt := lt_of_block hblk
    have hi2 := HT.out i hi
    have hg2 : Handle (w1.alloc (.cells #[.pointer none] 77)) := hg1.below ((Below.refl _ _).alloc (Nat.le_refl _) _)
    have ht1 : (w1.alloc (.cells #[.pointer none] 77)).cell? ⟨w1.heap.size, 0, none⟩ = some (.pointer none) := by simp
    have hf1 : (w1.alloc (.cells #[.pointer none] 77)).frozen? ⟨w1.heap.size, 0, none⟩ = false := by simp
    have HI := Lib.hid hi
    clear hi hv
    go_wp2_with fail
    refine (as_hit ⟨b, 0, none⟩ ⟨w1.heap.size, 0, none⟩ (.pointer none) _ hg2 ht1 hf1).mono ?_
    rintro e w3 ⟨rfl, hw⟩
    obtain ⟨hb3, hc0⟩ := as_world b w1 _ w3 rfl hw
    have hcb : w3.cell? ⟨b, 1, none⟩ = some (.int .i64 (i : Int)) := by
      rw [hb3.cell hlt, cell_of_row w1 b 1 _ _ _ hblk]; rfl
    have hb13 := Bt hb1 hb3
    clear hw hg2 ht1 hf1 hblk hb3
    go_wp2_with fail
    refine (wrap_fault 11 _ _ _ ⟨_, _, rfl⟩).mono ?_
    rintro e w4 ⟨u, rfl, hu, hb4⟩
    have hb14 := Bt hb13 hb4
    have HU := Lib.hid hu
    clear hu
    go_wp2_with fail
    go_ret2
    exact ⟨hb14, .inr ⟨i, _, HI.out, u, rfl, by have := HU.out; rw [Int.natCast_add]; exact this⟩⟩
end Go.Proofs.YteabhblbefglpaaDoor
