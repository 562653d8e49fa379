/- percent.Right, Decode, Normal, Plain, written. -/
import Derived.Test.YtibhohpamnpkcaaGreatDoorRouteOrderM3
import Derived.Test.YtibhohpamnpkcaaGreatDoorRouteOrderM1

namespace Go.Proofs.YtibhohpamnpkcaaGreatDoor
open Go.RowKit

def RightPost (s : ByteArray) (w : World) (e : Ending) (w' : World) : Prop := Below w.heap.size w w' ∧ (((told s).2 = none ∧ e = .returned .nilIface) ∨ (∃ i, (told s).2 = some i ∧ ∃ v, e = .returned v ∧ IsFault w' v 11 i))
/-- A variable in block b holds bytes of the call's own, from B on. -/
def VarB (w : World) (B b : Nat) (l : List UInt8) : Prop := b < B ∧ ∃ v, w.heap[b]? = some (.cells #[v] 74 (0, 0)) ∧ OwnB w B v l
theorem VarB.below {w w' : World} {B b : Nat} {l : List UInt8} (h : VarB w B b l) (hb : Below w.heap.size w w') : VarB w' B b l := by
  obtain ⟨h1, v, h2, h3⟩ := h
  exact ⟨h1, v, (hb.block b (lt_of_block h2)).trans h2, h3.below hb⟩
theorem OwnB.lt {w : World} {base : Nat} {v : Value} {l : List UInt8} (h : OwnB w base v l) (k : Nat) (hk : v.ownBlock = some k) : base ≤ k ∧ k < w.heap.size := World.ownsRow.lt h k hk
theorem OwnB.setOther {w : World} {B b : Nat} {v : Value} {l : List UInt8} (h : OwnB w B v l) (hb : b < B) (j : Nat) (u : Value) : OwnB (w.setCell ⟨b, j, none⟩ u) B v l := by
  unfold OwnB
  refine World.ownsRow.kept (row := some b) h ⟨rfl, rfl, rfl, by simp [World.setCell], fun k _ hk => Below.heap_setCell _ _ _ _ (fun e => hk (by simp [e]))⟩ (.inr fun e => ?_)
  have := (h.lt b e).1
  omega
set_option maxHeartbeats 1600000 in
theorem decode_fn (B b : Nat) (l : List UInt8) (c : UInt8) (esc : Bool) (w : World) (h : VarB w B b l) (hl : l.length ≤ 268435456) (hB : B ≤ w.heap.size) :
    Calls Tryz.prog 118 #[.int .u8 (c.toNat : Int), .bool esc, .pointer (some ⟨b, 0, none⟩)] w fun e w' => e = .returned (.tuple #[]) ∧ VarB w' B b (l ++ [c]) ∧ ButB B b w w' := by
  obtain ⟨h1, v, h2, h3⟩ := h
  have hlt := lt_of_block h2
  have c0 : w.cell? ⟨b, 0, none⟩ = some v := by rw [cell_of_row w b 0 _ _ _ h2]; rfl
  go_enter Tryz.func118, Tryz.ntmps118
  have hbf : Below w.heap.size w (w.alloc (.cells #[byteV c] 5)) := (Below.refl _ _).alloc (Nat.le_refl _) _
  have hown2 := h3.below hbf
  have hy : BytesSl (w.alloc (.cells #[byteV c] 5)) (.slice (some ⟨w.heap.size, 0, none⟩) 1 1) ⟨#[c]⟩ := BytesSl.lit w [c] _ 1 rfl rfl (by simp)
  go_wp2_with (at_builtin; refine wpList_app_bytes rfl _ _ rfl B _ _ rfl hown2 _ ⟨#[c]⟩ rfl hy (by show l.length + 1 ≤ _; omega) (by simp; omega) ?_)
  intro v3 w3 hown3 hgr
  have hne : v.ownBlock ≠ some b := fun e => by have := (h3.lt b e).1; omega
  have hb3 : w3.heap[b]? = some (.cells #[v] 74 (0, 0)) := by
    have hbf' : Below w.heap.size w (w.alloc (.cells #[.int .u8 (c.toNat : Int)] 5)) := hbf
    rw [hgr.block b (by simp; omega) (fun e => hne e.symm), hbf'.block b hlt]
    exact h2
  have d0 : w3.cell? ⟨b, 0, none⟩ = some v := by rw [cell_of_row w3 b 0 _ _ _ hb3]; rfl
  have f0 : w3.frozen? ⟨b, 0, none⟩ = false := by simp [World.frozen?, hb3]
  have hbe : ButB B b w (w3.setCell ⟨b, 0, none⟩ v3) := (ButB.of_below ((hbf.mono hB).grown hgr (by simp; omega) (fun k hk => (h3.lt k hk).1))).setCell 0 v3
  have hown4 := hown3.setOther h1 0 v3
  have hcell : (w3.setCell ⟨b, 0, none⟩ v3).heap[b]? = some (.cells #[v3] 74 (0, 0)) := by simp [World.setCell, Array.getElem?_modify, hb3]
  obtain ⟨a3, n3, c3, e3⟩ : ∃ a n c, v3 = .slice a n c := by
    rcases hown3.shape with ⟨_, e⟩ | ⟨g, cap, e, _⟩
    · exact ⟨_, _, _, e⟩
    · exact ⟨_, _, _, e⟩
  subst e3
  clear hown3 hgr hown2 hy hbf
  go_wp2_with fail
  go_end0
  exact ⟨rfl, ⟨h1, _, hcell, hown4⟩, hbe⟩

def bytesT (s : ByteArray) : List UInt8 := (told s).1.map (·.1)
def DecodePost (s : ByteArray) (w : World) (e : Ending) (w' : World) : Prop := Below w.heap.size w w' ∧ (((told s).2 = none ∧ ∃ v, e = .returned (.tuple #[v, .nilIface]) ∧ OwnB w' w.heap.size v (bytesT s)) ∨ (∃ i, (told s).2 = some i ∧ ∃ v, e = .returned (.tuple #[.slice none 0 0, v]) ∧ IsFault w' v 11 i))
set_option maxHeartbeats 1600000 in
theorem percent_Decode (s : ByteArray) (w : World) (hs : s.size ≤ 16777216) : Calls Tryz.prog 86 #[.string s] w (DecodePost s w) := by
  have hnew : (w.alloc (.cells #[.slice none 0 0] 74)).heap[w.heap.size]? = some (.cells #[.slice none 0 0] 74 (0, 0)) := heap_alloc_new w _
  have hE := each_Decode w.heap.size s hs (fun L wr => VarB wr (w.heap.size + 1) w.heap.size (L.map (·.1)) ∧ ButB (w.heap.size + 1) w.heap.size (w.alloc (.cells #[.slice none 0 0] 74)) wr)
    (fun _ _ _ h hb => ⟨h.1.below hb, h.2.trans (ButB.of_below (hb.mono (by have := h.2.size; simpa using this)))⟩)
    (fun L c esc wr h hL => (decode_fn _ _ _ c esc wr h.1 (by simp; omega) (by have := h.2.size; simpa using this)).mono fun _ _ ⟨a, b, d⟩ => ⟨a, by simpa using b, h.2.trans d⟩)
    (w.alloc (.cells #[.slice none 0 0] 74)) ⟨⟨by omega, _, hnew, OwnB.nil _ _⟩, ButB.refl _ _ _⟩
  have HE := Lib.hid hE
  clear hE hnew
  go_enter Tryz.func86, Tryz.ntmps86
  go_wp2_with fail
  refine HE.out.mono ?_
  rintro e w1 ⟨⟨hv, hbu⟩, h⟩
  obtain ⟨_, v, h2, h3⟩ := hv
  have hb : Below w.heap.size w w1 := ((Below.refl w.heap.size w).alloc (Nat.le_refl _) _).trans (hbu.below (Nat.le_refl _) (by omega))
  have c0 : w1.cell? ⟨w.heap.size, 0, none⟩ = some v := by rw [cell_of_row w1 w.heap.size 0 _ _ _ h2]; rfl
  have hown : OwnB w1 w.heap.size v (bytesT s) := h3.base' (by omega)
  have HO := Lib.hid hown
  clear h2 h3 hbu hown
  rcases h with ⟨hn, rfl⟩ | ⟨i, hi, u, rfl, hu⟩
  · have HN := Lib.hid hn
    clear hn
    go_wp2_with fail
    go_ret2
    exact ⟨hb, .inl ⟨HN.out, v, rfl, HO.out⟩⟩
  · obtain ⟨q, rfl⟩ := hu.ne_nil
    have HN := Lib.hid hi
    clear hi
    go_wp2_with fail
    go_ret2
    exact ⟨hb, .inr ⟨i, HN.out, _, rfl, hu⟩⟩

def tails : ByteArray := ⟨#[45, 46, 95, 126]⟩
theorem tails_has (c : UInt8) : hasB tails c = decide (c.toNat = 45 ∨ c.toNat = 46 ∨ c.toNat = 95 ∨ c.toNat = 126) := by
  have : ∀ n : Fin 256, hasB tails (UInt8.ofNat n.1) = decide ((UInt8.ofNat n.1).toNat = 45 ∨ (UInt8.ofNat n.1).toNat = 46 ∨ (UInt8.ofNat n.1).toNat = 95 ∨ (UInt8.ofNat n.1).toNat = 126) := by decide +kernel
  have h := this ⟨c.toNat, c.toNat_lt⟩
  simpa using h
theorem writ2 (n : Nat) (h : n < 256) : writ 16 n 2 = digs 16 2 n := by
  have : ∀ n : Fin 256, writ 16 n.1 2 = digs 16 2 n.1 := by decide +kernel
  exact this ⟨n, h⟩
def percS : ByteArray := ⟨#[37]⟩
theorem perc_app (l : List UInt8) : (⟨#[37]⟩ : ByteArray) ++ ⟨l.toArray⟩ = ⟨(37 :: l).toArray⟩ := by
  apply ByteArray.ext
  apply Array.ext'
  rw [ByteArray.data_append]
  simp
theorem normC_yes {c : UInt8} (h : unres c = false) : normC (c, true) = escW c := by unfold normC; rw [if_pos ⟨rfl, h⟩]
theorem normC_no {c : UInt8} {esc : Bool} (h : esc = false ∨ unres c = true) : normC (c, esc) = [c] := by
  unfold normC
  rw [if_neg]
  rintro ⟨h1, h2⟩
  simp only at h1 h2
  rcases h with h | h
  · rw [h1] at h; cases h
  · rw [h2] at h; cases h
theorem escW_len (c : UInt8) : (escW c).length = 3 := by unfold escW; simp [digs_length]
theorem normL_snoc (L : List (UInt8 × Bool)) (x : UInt8 × Bool) : normL (L ++ [x]) = normL L ++ normC x := by unfold normL; rw [List.flatMap_append]; simp
theorem normL_len (L : List (UInt8 × Bool)) : (normL L).length ≤ 3 * L.length := by
  induction L with
  | nil => simp [normL]
  | cons x L ih =>
    unfold normL at ih ⊢
    rw [List.flatMap_cons, List.length_append, List.length_cons]
    have : (normC x).length ≤ 3 := by
      unfold normC
      split
      · rw [escW_len]; exact Nat.le_refl _
      · simp
    omega

def normS (s : ByteArray) : ByteArray := ⟨(normL (told s).1).toArray⟩
def NormalPost (s : ByteArray) (w : World) (e : Ending) (w' : World) : Prop := Below w.heap.size w w' ∧ (((told s).2 = none ∧ e = .returned (.tuple #[.string (normS s), .nilIface])) ∨ (∃ i, (told s).2 = some i ∧ ∃ v, e = .returned (.tuple #[.string ⟨#[]⟩, v]) ∧ IsFault w' v 11 i))
end Go.Proofs.YtibhohpamnpkcaaGreatDoor

/- Texts out of lists of bytes. -/
namespace Go.Proofs.YtibhohpamnpkcaaGreatDoor
open Go.RowKit

def ofL (l : List UInt8) : ByteArray := ⟨l.toArray⟩
theorem ofL_app (a b : List UInt8) : ofL a ++ ofL b = ofL (a ++ b) := by
  unfold ofL
  apply ByteArray.ext
  apply Array.ext'
  rw [ByteArray.data_append]
  simp
theorem ofL_list (s : ByteArray) : ofL s.data.toList = s := by unfold ofL; rfl
theorem extract_one {s : ByteArray} {i : Nat} (h : i < s.size) : s.extract i (i + 1) = ofL [byteAt s i] := by
  apply ByteArray.ext
  apply Array.ext'
  rw [Lib.extract_data]
  have hl : s.data.toList.length = s.size := rfl
  have : s.data.toList.drop i = s.data.toList[i]'(by omega) :: s.data.toList.drop (i + 1) := List.drop_eq_getElem_cons (by omega)
  rw [this]
  unfold byteAt ofL
  simp [List.getD]
  rw [Array.getElem?_eq_getElem (show i < s.data.size from h)]
  rfl
theorem byte_string (c : UInt8) (w : World) : (convert 74 9 (.slice (some ⟨w.heap.size, 0, none⟩) 1 1)).run Tryz.prog (w.alloc (.cells #[.int .u8 (c.toNat : Int)] 5)) = .ok (.string ⟨#[c]⟩) (w.alloc (.cells #[.int .u8 (c.toNat : Int)] 5)) := by
  have hB : BytesAt (w.alloc (.cells #[.int .u8 (c.toNat : Int)] 5)) w.heap.size [c] := ⟨5, [], 0, 0, .inl (Nat.le_refl _), heap_alloc_new w _⟩
  exact run_back (P := Tryz.prog) _ 74 9 5 w.heap.size 1 [c] Tryz.underlying74 Tryz.underlying5 Tryz.underlying9 hB
theorem ofL_size (l : List UInt8) : (ofL l).size = l.length := by
  show l.toArray.size = _
  simp
end Go.Proofs.YtibhohpamnpkcaaGreatDoor

/- Plain facts on rows of bytes. -/
namespace Go.Proofs.YtibhohpamnpkcaaGreatDoor

theorem ba_ext {a b : ByteArray} (h : a.data.toList = b.data.toList) : a = b := by
  cases a; cases b; simp only [ByteArray.mk.injEq]; exact Array.toList_inj.1 h

theorem data_append (a b : ByteArray) : (a ++ b).data.toList = a.data.toList ++ b.data.toList := by
  rw [ByteArray.data_append]; exact Array.toList_append

end Go.Proofs.YtibhohpamnpkcaaGreatDoor

/- The reference's Written: a number's digits. -/
namespace Go.Proofs.YtibhohpamnpkcaaGreatDoor
open Go.RowKit

theorem str_size (l : List UInt8) : (⟨l.toArray⟩ : ByteArray).size = l.length := by
  show l.toArray.size = _
  simp

def strLen : Value → Nat
  | .string b => b.size
  | _ => 0
def figs : ByteArray := ⟨#[48, 49, 50, 51, 52, 53, 54, 55, 56, 57, 65, 66, 67, 68, 69, 70]⟩
theorem figs_cut (i : Nat) (h : i < 16) : figs.extract i (i + 1) = ⟨#[UInt8.ofNat (figN i)]⟩ := by
  have : ∀ i : Fin 16, figs.extract i.1 (i.1 + 1) = ⟨#[UInt8.ofNat (figN i.1)]⟩ := by decide +kernel
  exact this ⟨i, h⟩
theorem ba_cons (b : UInt8) (l : List UInt8) : (⟨#[b]⟩ : ByteArray) ++ ⟨l.toArray⟩ = ⟨(b :: l).toArray⟩ := by
  apply ba_ext
  rw [data_append]
  simp
theorem digs_nought (base : Nat) (hb : 2 ≤ base) (k n : Nat) (hn : n < base ^ 64) (hk : ndigs base 64 n ≤ k) : (⟨#[48]⟩ : ByteArray) ++ ⟨(digs base k n).toArray⟩ = ⟨(digs base (k + 1) n).toArray⟩ := by
  rw [ba_cons, digs_pad]
  exact Nat.lt_of_lt_of_le (ndigs_lt base hb 64 n hn) (Nat.pow_le_pow_right (by omega) hk)
theorem figs_step (base j n m : Nat) (hm : n / base ^ j = m) (hb : 0 < base) (hb2 : base ≤ 16) : figs.extract (m % base) (m % base + 1) ++ ⟨(digs base j n).toArray⟩ = ⟨(digs base (j + 1) n).toArray⟩ := by
  rw [figs_cut _ (Nat.lt_of_lt_of_le (Nat.mod_lt _ hb) hb2), ba_cons, digs_head, hm]

set_option maxHeartbeats 1600000 in
set_option maxRecDepth 100000 in
theorem ref_Written (n base : Nat) (width : Int) (w : World) (hn : n < 18446744073709551616) (hb : 2 ≤ base) (hb2 : base ≤ 16) (hw1 : width ≤ 9223372036854775807) (hw2 : -9223372036854775808 ≤ width) :
    Calls Tryz.prog 139 #[.int .u64 (n : Int), .int .u64 (base : Int), .int .i64 width] w fun e w' => e = .returned (.string ⟨(writ base n (min width 16).toNat).toArray⟩) ∧ ∃ q, w.drewN q = w' := by
  have hJ0 : ndigs base 64 n ≤ 64 := ndigs_le _ _ _
  have hJp := ndigs_pos base hb 64 n
  have h64 : n < base ^ 64 := Nat.lt_of_lt_of_le hn (Nat.le_trans (by decide) (Nat.pow_le_pow_left hb 64))
  go_enter Tryz.func139, Tryz.ntmps139
  go_wp2_with fail
  go_loopw [0, 8] (fun m s wr => ∃ j q : Nat, j ≤ 64 ∧ (j = 0 ∨ j < ndigs base 64 n) ∧ m = .int .u64 ((n / base ^ j : Nat) : Int) ∧ s = .string ⟨(digs base j n).toArray⟩ ∧ w.drewN q = wr)
    (fun m _ _ => (intOf m).toNat)
  case atStart => exact ⟨0, 0, by omega, .inl rfl, by simp, by simp [digs], rfl⟩
  case round =>
    obtain ⟨j, q, hj64, hj, rfl, rfl, rfl⟩ := hrel
    have hp := hJp j h64
    have hp1 := hJp (j + 1) h64
    generalize hm : n / base ^ j = m at *
    have HM := Lib.hid hm
    have hml : m < 18446744073709551616 := by rw [← hm]; exact Nat.lt_of_le_of_lt (Nat.div_le_self _ _) hn
    have hm2 : n / base ^ (j + 1) = m / base := by rw [Nat.pow_succ, ← Nat.div_div_eq_div_mul, hm]
    rw [hm2] at hp1
    have HM2 := Lib.hid hm2
    have hr0 : (0 : Int) ≤ (m : Int) % (base : Int) := Int.emod_nonneg _ (by omega)
    have hr1 : (m : Int) % (base : Int) < 16 := Int.lt_of_lt_of_le (Int.emod_lt_of_pos _ (by omega)) (by omega)
    have hq0 : (0 : Int) ≤ (m : Int) / (base : Int) := Int.ediv_nonneg (by omega) (by omega)
    have hq1 : (m : Int) / (base : Int) ≤ (m : Int) := Int.ediv_le_self _ (by omega)
    have h64' := Lib.hid h64
    clear hm hm2 hJp h64
    generalize hs : digs base j n = D at *
    have hdl : D.length = j := by rw [← hs]; exact digs_length _ _ _
    have HDL := Lib.hid hdl
    have hdl2 : D.length ≤ 64 := by omega
    have HS := Lib.hid hs
    clear hdl hs
    go_wp2_with fail
    go_quiet (fail)
    have hst := figs_step base j n m HM.out (by omega) hb2
    unfold figs at hst
    rw [HS.out] at hst
    rw [hst]
    clear hst
    by_cases h0 : m / base = 0
    · have h0' : (m : Int) / (base : Int) = 0 := by exact_mod_cast h0
      have hJ : j + 1 = max (ndigs base 64 n) 1 := by omega
      have HJ := Lib.hid hJ
      have H0 := Lib.hid h0
      clear hJ h0 hp1 hp hj
      go_wp2_with fail
      obtain ⟨wo, hwo⟩ : ∃ wo : World, wo = (w.drewN q).drewN nq := ⟨_, rfl⟩
      go_loopw [8] (fun s wr => ∃ k : Nat, j + 1 ≤ k ∧ k ≤ max (j + 1) (min width 16).toNat ∧ s = .string ⟨(digs base k n).toArray⟩ ∧ ∃ q, w.drewN q = wr)
        (fun s _ => 200 - strLen s)
      case atStart => exact ⟨j + 1, Nat.le_refl _, by omega, rfl, _, rfl⟩
      case round =>
        obtain ⟨k, hk1, hk2, rfl, q2, rfl⟩ := hrel
        have hp : (⟨#[48]⟩ : ByteArray) ++ ⟨(digs base k n).toArray⟩ = ⟨(digs base (k + 1) n).toArray⟩ := digs_nought base hb k n h64'.out (by have := HJ.out; omega)
        have hsz : (⟨(digs base k n).toArray⟩ : ByteArray).size = k := by rw [str_size, digs_length]
        have hsz1 : (⟨(digs base (k + 1) n).toArray⟩ : ByteArray).size = k + 1 := by rw [str_size, digs_length]
        generalize hS : (⟨(digs base k n).toArray⟩ : ByteArray) = s at *
        generalize hS1 : (⟨(digs base (k + 1) n).toArray⟩ : ByteArray) = s1 at *
        have HP := Lib.hid hp
        have hsz' : s.size ≤ k := by omega
        have hsz'' : k ≤ s.size := by omega
        have hsz1' : s1.size ≤ k + 1 := by omega
        have hsz1'' : k + 1 ≤ s1.size := by omega
        have HS0 := Lib.hid hS
        have HS1 := Lib.hid hS1
        clear hp hsz hsz1 hS hS1
        by_cases hc : (k : Int) < width ∧ k < 16
        · obtain ⟨hc1, hc2⟩ := hc
          have c1 : (s.size : Int) < width := by omega
          have c2 : s.size < 16 := by omega
          go_wp2_with fail
          go_roundw
          case rel => exact ⟨k + 1, by omega, by omega, by rw [HP.out, HS1.out], _, rfl⟩
          case measure => rw [HP.out]; simp only [strLen]; omega
        · by_cases hc1 : (s.size : Int) < width
          · have c2 : 16 ≤ s.size := by omega
            have hfin : k = max (ndigs base 64 n) (max (min width 16).toNat 1) := by have := HJ.out; omega
            have HF := Lib.hid hfin
            clear hfin hc
            go_wp2_with fail
            go_ret
            exact ⟨ret_str (by rw [← HS0.out, writ, ← HF.out]), _, rfl⟩
          · have c1 : width ≤ (s.size : Int) := by omega
            have hfin : k = max (ndigs base 64 n) (max (min width 16).toNat 1) := by have := HJ.out; omega
            have HF := Lib.hid hfin
            clear hfin hc
            go_wp2_with fail
            go_ret
            exact ⟨ret_str (by rw [← HS0.out, writ, ← HF.out]), _, rfl⟩
    · have e0 : ((m : Int) / (base : Int) == 0) = false := by
        rw [beq_eq_false_iff_ne]; exact_mod_cast h0
      have hlt : m / base < m := by
        have : 0 < m := Nat.pos_of_ne_zero (fun h => h0 (by rw [h]; exact Nat.zero_div _))
        exact Nat.div_lt_self this hb
      go_wp2_with fail
      go_roundw
      case rel => exact ⟨j + 1, _, by omega, by omega, by rw [HM2.out]; rfl, rfl, rfl⟩
      case measure => simp [intOf]; omega
end Go.Proofs.YtibhohpamnpkcaaGreatDoor

/- The reference's bad, Right, Plain, escape, Decode, Normal of chapter 03. -/
namespace Go.Proofs.YtibhohpamnpkcaaGreatDoor
open Go.RowKit

theorem escOk_is {s : ByteArray} {i : Nat} (h : i + 3 ≤ s.size) : escOk s i = decide ((escRes s i).2.1 = 0) := by unfold escOk; rw [decide_eq_true h, Bool.true_and]
theorem escOk_short {s : ByteArray} {i : Nat} (h : ¬ i + 3 ≤ s.size) : escOk s i = false := by unfold escOk; rw [decide_eq_false h, Bool.false_and]
def RBadPost (s : ByteArray) (w : World) (e : Ending) (w' : World) : Prop := (∃ q, w.drewN q = w') ∧ (((told s).2 = none ∧ e = .returned (.int .i64 (-1))) ∨ (∃ i : Nat, (told s).2 = some i ∧ e = .returned (.int .i64 (i : Int))))

set_option maxHeartbeats 1600000 in
set_option maxRecDepth 100000 in
theorem ref_bad (s : ByteArray) (w : World) (hs : s.size ≤ 16777216) : Calls Tryz.prog 114 #[.string s] w (RBadPost s w) := by
  go_enter Tryz.func114, Tryz.ntmps114
  go_wp2_with fail
  go_loopw [3] (fun x wr => ∃ (i : Nat) (l : List (UInt8 × Bool)) (q : Nat), i ≤ s.size ∧ x = .int .i64 i ∧ Told s l i ∧ w.drewN q = wr) (fun x _ => s.size - (intOf x).toNat)
  case atStart => exact ⟨0, [], 0, Nat.zero_le _, rfl, Told.zero s, rfl⟩
  case round =>
    obtain ⟨i, l, q, hil, rfl, ht, rfl⟩ := hrel
    have HT := Lib.hid ht
    clear ht
    by_cases hlt : i < s.size
    · have hbk := byteAt_idx' hlt
      have hplain := fun h => HT.out.plain hlt h
      have hesc := fun h k => HT.out.esc hlt h k
      have hbad := fun h k => HT.out.bad hlt h k
      rw [← hbk] at hplain hesc hbad
      have HP := Lib.hid hplain
      have HE := Lib.hid hesc
      have HBD := Lib.hid hbad
      clear hplain hesc hbad hbk
      by_cases h37 : s[i].toNat = 37
      · have e1 : ((s[i].toNat : Int) != 37) = false := by rw [h37]; rfl
        have H37 := Lib.hid h37
        clear h37
        by_cases h3 : i + 3 ≤ s.size
        · have hok := escOk_is h3
          have hsz := ext_size s (i + 1) (i + 3) (by omega) h3
          have hC := fun W => ref_Number (s.extract (i + 1) (i + 3)) 16 255 W (by omega) (by omega) (by omega) (by omega)
          unfold RefNum at hC
          have hdef : numRes (s.extract (i + 1) (i + 3)) 16 255 = escRes s i := rfl
          rw [hdef] at hC
          generalize escRes s i = r at *
          obtain ⟨n, k, j⟩ := r
          simp only at hC hok
          have HC := Lib.hid hC
          have HOK := Lib.hid hok
          have hi3 : (i : Int) + 3 ≤ (s.size : Int) := by omega
          clear hC hok hdef hsz
          go_wp2_with fail
          refine (HC.out _).mono ?_
          rintro e w1 ⟨rfl, q2, rfl⟩
          by_cases hk : k = 0
          · subst hk
            have ht2 := HE.out H37.out (HOK.out.trans rfl)
            have HT2 := Lib.hid ht2
            clear ht2
            go_wp2_with fail
            go_roundw
            case rel => exact ⟨i + 3, _, _, by omega, by go_num, HT2.out, rfl⟩
            case measure => simp [intOf]; omega
          · have e2 : ((k : Int) != 0) = true := by rw [bne_iff_ne]; omega
            have hb2 := HBD.out H37.out (HOK.out.trans (decide_eq_false hk))
            have HB2 := Lib.hid hb2
            clear hb2 hk
            go_wp2_with fail
            go_ret
            exact ⟨⟨_, rfl⟩, .inr ⟨i, by rw [HB2.out], rfl⟩⟩
        · have hb2 := HBD.out H37.out (escOk_short h3)
          have HB2 := Lib.hid hb2
          have hi3 : (s.size : Int) < (i : Int) + 3 := by omega
          clear hb2 h3
          go_wp2_with fail
          go_ret
          exact ⟨⟨_, rfl⟩, .inr ⟨i, by rw [HB2.out], rfl⟩⟩
      · have e1 : ((s[i].toNat : Int) != 37) = true := by rw [bne_iff_ne]; omega
        have ht2 := HP.out h37
        have HT2 := Lib.hid ht2
        clear h37 ht2
        go_wp2_with fail
        go_roundw
        case rel => exact ⟨i + 1, _, _, by omega, by go_num, HT2.out, rfl⟩
        case measure => simp [intOf]; omega
    · have hd := HT.out.done hlt
      obtain rfl : i = s.size := by omega
      have HD := Lib.hid hd
      clear hd
      go_wp2_with fail
      go_ret
      exact ⟨⟨_, rfl⟩, .inl ⟨by rw [HD.out], rfl⟩⟩

theorem ref_Right03 (s : ByteArray) (w : World) (hs : s.size ≤ 16777216) : Calls Tryz.prog 84 #[.string s] w (RBadPost s w) := by
  go_enter Tryz.func84, Tryz.ntmps84
  go_wp2_with fail
  refine (ref_bad s _ hs).mono ?_
  rintro e w1 ⟨⟨q, rfl⟩, h⟩
  rcases h with ⟨hn, rfl⟩ | ⟨i, hi, rfl⟩
  · have HN := Lib.hid hn
    clear hn
    go_wp2_with fail
    go_ret
    exact ⟨⟨_, rfl⟩, .inl ⟨HN.out, rfl⟩⟩
  · have HN := Lib.hid hi
    clear hi
    go_wp2_with fail
    go_ret
    exact ⟨⟨_, rfl⟩, .inr ⟨i, HN.out, rfl⟩⟩

def unresS : ByteArray := ⟨#[97, 98, 99, 100, 101, 102, 103, 104, 105, 106, 107, 108, 109, 110, 111, 112, 113, 114, 115, 116, 117, 118, 119, 120, 121, 122, 48, 49, 50, 51, 52, 53, 54, 55, 56, 57, 45, 46, 95, 126]⟩
theorem unresS_has (c : UInt8) : hasB unresS (UInt8.ofNat (smallN c.toNat)) = unres c := by
  have : ∀ n : Fin 256, hasB unresS (UInt8.ofNat (smallN (UInt8.ofNat n.1).toNat)) = unres (UInt8.ofNat n.1) := by decide +kernel
  have h := this ⟨c.toNat, c.toNat_lt⟩
  simpa using h
theorem smallN_lt (c : UInt8) : (UInt8.ofNat (smallN c.toNat)).toNat = smallN c.toNat := by
  have h := c.toNat_lt
  rw [UInt8.toNat_ofNat']
  refine Nat.mod_eq_of_lt ?_
  unfold smallN
  split <;> omega
theorem ref_Plain (c : UInt8) (w : World) : Calls Tryz.prog 115 #[.int .u8 (c.toNat : Int)] w fun e w' => e = .returned (.bool (unres c)) ∧ w = w' := by
  have hS := fun W => ref_Small c.toNat c.toNat_lt W
  have hH := fun W => ref_Has unresS (UInt8.ofNat (smallN c.toNat)) W (by decide)
  rw [smallN_lt, unresS_has] at hH
  have HS := Lib.hid hS
  have HH := Lib.hid hH
  clear hS hH
  generalize smallN c.toNat = m at *
  go_enter Tryz.func115, Tryz.ntmps115
  go_wp2_with fail
  refine (HS.out _).mono ?_
  rintro e w1 ⟨rfl, rfl⟩
  go_wp2_with fail
  refine (HH.out _).mono ?_
  rintro e w1 ⟨rfl, rfl⟩
  go_wp2_with fail
  go_ret
  exact ⟨rfl, rfl⟩

theorem ref_escape (c : UInt8) (w : World) : Calls Tryz.prog 116 #[.int .u8 (c.toNat : Int)] w fun e w' => e = .returned (.string (ofL (escW c))) ∧ ∃ q, w.drewN q = w' := by
  have hb := c.toNat_lt
  have hw := writ2 c.toNat hb
  have hC := fun W => ref_Written c.toNat 16 2 W (by omega) (by omega) (by omega) (by omega) (by omega)
  rw [show (min (2 : Int) 16).toNat = 2 from rfl, hw] at hC
  have HC := Lib.hid hC
  have hfin := perc_app (digs 16 2 c.toNat)
  have HF := Lib.hid hfin
  clear hC hw hfin
  go_enter Tryz.func116, Tryz.ntmps116
  go_wp2_with fail
  refine (HC.out _).mono ?_
  rintro e w2 ⟨rfl, q, rfl⟩
  go_wp2_with fail
  go_ret
  exact ⟨ret_str HF.out, ⟨_, rfl⟩⟩

theorem wrap_u8' (n : Nat) (h : n ≤ 255) : IntKind.u8.wrap (n : Int) = (n : Int) := by unfold IntKind.wrap; simp [IntKind.signed, IntKind.bits]; omega

set_option maxHeartbeats 3200000 in
set_option maxRecDepth 100000 in
theorem ref_Decode (s : ByteArray) (w : World) (hs : s.size ≤ 16777216) (hr : (told s).2 = none) : Calls Tryz.prog 109 #[.string s] w fun e w' => ∃ v, e = .returned v ∧ OwnB w' w.heap.size v (bytesT s) ∧ Below w.heap.size w w' := by
  have HR := Lib.hid hr
  clear hr
  go_enter Tryz.func109, Tryz.ntmps109
  go_wp2_with fail
  go_loopw [3, 4] (fun v x wr => ∃ (i : Nat) (l : List (UInt8 × Bool)), i ≤ s.size ∧ x = .int .i64 i ∧ Told s l i ∧ OwnB wr w.heap.size v (l.map (·.1)) ∧ Below w.heap.size w wr) (fun _ x _ => s.size - (intOf x).toNat)
  case atStart => exact ⟨0, [], Nat.zero_le _, rfl, Told.zero s, OwnB.lit w [] #[] 0 rfl rfl (Nat.le_refl _) (by simp), (Below.refl _ _).alloc (Nat.le_refl _) _⟩
  case round =>
    obtain ⟨i, l, hil, rfl, ht, hown, hbr⟩ := hrel
    have HT := Lib.hid ht
    have hll := ht.len
    have hlm : (l.map (·.1)).length ≤ 16777216 := by rw [List.length_map]; omega
    clear ht
    by_cases hlt : i < s.size
    · have hbk := byteAt_idx' hlt
      have hplain := fun h => HT.out.plain hlt h
      have hesc := fun h k => HT.out.esc hlt h k
      have hbad := fun h k => HT.out.bad hlt h k
      rw [← hbk] at hplain hesc hbad
      have HP := Lib.hid hplain
      have HE := Lib.hid hesc
      have HBD := Lib.hid hbad
      clear hplain hesc hbad hbk
      by_cases h37 : s[i].toNat = 37
      · have e1 : ((s[i].toNat : Int) == 37) = true := by rw [h37]; rfl
        have hok : escOk s i = true := by
          cases hx : escOk s i with
          | true => rfl
          | false => have h1 := HBD.out h37 hx; have h2 := HR.out; rw [h1] at h2; cases h2
        have h3 := escOk_le hok
        have ht2 := HE.out h37 hok
        have hcn := escC_nat hok
        have hkz : (escRes s i).2.1 = 0 := by rw [escOk_is h3] at hok; exact of_decide_eq_true hok
        have hnm := numRes_most (s.extract (i + 1) (i + 3)) 16 255 hkz
        have hsz := ext_size s (i + 1) (i + 3) (by omega) h3
        have hC := fun W => ref_Number (s.extract (i + 1) (i + 3)) 16 255 W (by omega) (by omega) (by omega) (by omega)
        unfold RefNum at hC
        have hdef : numRes (s.extract (i + 1) (i + 3)) 16 255 = escRes s i := rfl
        rw [hdef] at hC hnm
        rw [← hcn] at hC
        generalize escRes s i = r at *
        obtain ⟨n, k, j⟩ := r
        simp only at hC hkz
        subst hkz
        generalize escC s i = c at *
        have HC := Lib.hid hC
        have HT2 := Lib.hid ht2
        have hi3 : (i : Int) + 3 ≤ (s.size : Int) := by omega
        have hw8 := wrap_u8' c.toNat (by have := c.toNat_lt; omega)
        have hmap : l.map (·.1) ++ [c] = (l ++ [(c, true)]).map (·.1) := by simp
        have HMAP := Lib.hid hmap
        clear hC hdef hsz hcn hnm hok ht2 h37 hmap
        go_wp2_with fail
        refine (HC.out _).mono ?_
        rintro e w1 ⟨rfl, q2, rfl⟩
        generalize hdw : wr.drewN q2 = w2 at *
        have hbq : Below wr.heap.size wr w2 := by rw [← hdw]; exact below_drewN (Below.refl _ _) q2
        have hown2 := (hown.below hbq).below ((Below.refl w2.heap.size w2).alloc (Nat.le_refl _) (.cells #[.int .u8 (c.toNat : Int)] 5))
        have hbr2 := (Bt hbr hbq).alloc (Bt hbr hbq).size (.cells #[.int .u8 (c.toNat : Int)] 5)
        have hy : BytesSl (w2.alloc (.cells #[.int .u8 (c.toNat : Int)] 5)) (.slice (some ⟨w2.heap.size, 0, none⟩) 1 1) ⟨#[c]⟩ := BytesSl.lit w2 [c] _ 1 rfl rfl (by simp)
        clear hown hbr hbq hdw
        go_wp2_with (at_builtin; refine wpList_app_bytes rfl _ _ rfl w.heap.size _ _ rfl hown2 _ ⟨#[c]⟩ rfl hy (by show _ + 1 ≤ _; omega) hbr2.size ?_)
        intro v3 w3 hown3 hgr
        have hb3 := hown2.under hbr2 (Nat.le_refl _) hgr
        have hown4 : OwnB w3 w.heap.size v3 ((l ++ [(c, true)]).map (·.1)) := by rw [← HMAP.out]; exact hown3
        clear hown3 hown2 hgr hbr2 hy
        go_wp2_with fail
        go_roundw
        case rel => exact ⟨i + 3, _, by omega, by go_num, HT2.out, hown4, hb3⟩
        case measure => simp [intOf]; omega
      · have e1 : ((s[i].toNat : Int) == 37) = false := by rw [beq_eq_false_iff_ne]; omega
        have ht2 := HP.out h37
        have HT2 := Lib.hid ht2
        have hmap : l.map (·.1) ++ [s[i]] = (l ++ [(s[i], false)]).map (·.1) := by simp
        have HMAP := Lib.hid hmap
        have hown2 := hown.below ((Below.refl wr.heap.size wr).alloc (Nat.le_refl _) (.cells #[.int .u8 (s[i].toNat : Int)] 5))
        have hbr2 := hbr.alloc hbr.size (.cells #[.int .u8 (s[i].toNat : Int)] 5)
        have hy : BytesSl (wr.alloc (.cells #[.int .u8 (s[i].toNat : Int)] 5)) (.slice (some ⟨wr.heap.size, 0, none⟩) 1 1) ⟨#[s[i]]⟩ := BytesSl.lit wr [s[i]] _ 1 rfl rfl (by simp)
        clear h37 ht2 hmap hown hbr
        go_wp2_with (at_builtin; refine wpList_app_bytes rfl _ _ rfl w.heap.size _ _ rfl hown2 _ ⟨#[s[i]]⟩ rfl hy (by show _ + 1 ≤ _; omega) hbr2.size ?_)
        intro v3 w3 hown3 hgr
        have hb3 := hown2.under hbr2 (Nat.le_refl _) hgr
        have hown4 : OwnB w3 w.heap.size v3 ((l ++ [(s[i], false)]).map (·.1)) := by rw [← HMAP.out]; exact hown3
        clear hown3 hown2 hgr hbr2 hy
        go_wp2_with fail
        go_roundw
        case rel => exact ⟨i + 1, _, by omega, by go_num, HT2.out, hown4, hb3⟩
        case measure => simp [intOf]; omega
    · have hd := HT.out.done hlt
      obtain rfl : i = s.size := by omega
      have hfin : bytesT s = l.map (·.1) := by unfold bytesT; rw [hd]
      have HD := Lib.hid hfin
      clear hd hfin
      go_wp2_with fail
      go_ret
      exact ⟨_, rfl, by rw [HD.out]; exact hown, hbr⟩

set_option maxHeartbeats 3200000 in
set_option maxRecDepth 100000 in
theorem ref_Normal (s : ByteArray) (w : World) (hs : s.size ≤ 16777216) (hr : (told s).2 = none) : Calls Tryz.prog 85 #[.string s] w fun e w' => e = .returned (.string (normS s)) ∧ Below w.heap.size w w' := by
  have HR := Lib.hid hr
  have HMK := Lib.hid byte_string
  clear hr
  go_enter Tryz.func85, Tryz.ntmps85
  go_wp2_with fail
  go_loopw [3, 4] (fun v x wr => ∃ (i : Nat) (l : List (UInt8 × Bool)), i ≤ s.size ∧ x = .int .i64 i ∧ Told s l i ∧ v = .string (ofL (normL l)) ∧ Below w.heap.size w wr) (fun _ x _ => s.size - (intOf x).toNat)
  case atStart => exact ⟨0, [], Nat.zero_le _, rfl, Told.zero s, rfl, Below.refl _ _⟩
  case round =>
    obtain ⟨i, l, hil, rfl, ht, rfl, hbr⟩ := hrel
    have HT := Lib.hid ht
    have hll := ht.len
    have hzd : (ofL (normL l)).size ≤ 50331648 := by rw [ofL_size]; have := normL_len l; omega
    have hsn := fun x => normL_snoc l x
    have HS := Lib.hid hsn
    clear ht hsn
    by_cases hlt : i < s.size
    · have hbk := byteAt_idx' hlt
      have hplain := fun h => HT.out.plain hlt h
      have hesc := fun h k => HT.out.esc hlt h k
      have hbad := fun h k => HT.out.bad hlt h k
      rw [← hbk] at hplain hesc hbad
      have HP := Lib.hid hplain
      have HE := Lib.hid hesc
      have HBD := Lib.hid hbad
      have hx := extract_one hlt
      rw [← hbk] at hx
      clear hplain hesc hbad hbk
      by_cases h37 : s[i].toNat = 37
      · have e1 : ((s[i].toNat : Int) != 37) = false := by rw [h37]; rfl
        have hok : escOk s i = true := by
          cases hx : escOk s i with
          | true => rfl
          | false => have h1 := HBD.out h37 hx; have h2 := HR.out; rw [h1] at h2; cases h2
        have h3 := escOk_le hok
        have ht2 := HE.out h37 hok
        have hcn := escC_nat hok
        have hkz : (escRes s i).2.1 = 0 := by rw [escOk_is h3] at hok; exact of_decide_eq_true hok
        have hsz := ext_size s (i + 1) (i + 3) (by omega) h3
        have hC := fun W => ref_Number (s.extract (i + 1) (i + 3)) 16 255 W (by omega) (by omega) (by omega) (by omega)
        unfold RefNum at hC
        have hdef : numRes (s.extract (i + 1) (i + 3)) 16 255 = escRes s i := rfl
        rw [hdef] at hC
        rw [← hcn] at hC
        generalize escRes s i = r at *
        obtain ⟨n, k, j⟩ := r
        simp only at hC hkz
        subst hkz
        generalize escC s i = c at *
        have HC := Lib.hid hC
        have HT2 := Lib.hid ht2
        have hi3 : (i : Int) + 3 ≤ (s.size : Int) := by omega
        have hw8 := wrap_u8' c.toNat (by have := c.toNat_lt; omega)
        have hP := fun W => ref_Plain c W
        have hE := fun W => ref_escape c W
        have hYes : unres c = false → ofL (normL l) ++ ofL (escW c) = ofL (normL (l ++ [(c, true)])) := fun h => by rw [ofL_app, HS.out, normC_yes h]
        have hNo : unres c = true → ofL (normL l) ++ ⟨#[c]⟩ = ofL (normL (l ++ [(c, true)])) := fun h => by rw [HS.out, normC_no (.inr h), ← ofL_app]; rfl
        have hez : (ofL (escW c)).size ≤ 3 := by rw [ofL_size, escW_len]; exact Nat.le_refl _
        have HYES := Lib.hid hYes
        have HNO := Lib.hid hNo
        have HPL := Lib.hid hP
        have HES := Lib.hid hE
        generalize ofL (normL l) = od at *
        generalize ofL (escW c) = ew at *
        clear hC hdef hsz hcn hok ht2 h37 hYes hNo hP hE hx
        go_wp2_with fail
        refine (HC.out _).mono ?_
        rintro e w1 ⟨rfl, q2, rfl⟩
        generalize hdw : wr.drewN q2 = w2 at *
        have hbq : Below wr.heap.size wr w2 := by rw [← hdw]; exact below_drewN (Below.refl _ _) q2
        have hbr2 := Bt hbr hbq
        clear hbr hbq hdw
        go_wp2_with fail
        refine (HPL.out _).mono ?_
        rintro e w1 ⟨rfl, rfl⟩
        by_cases hu : unres c = true
        · have hcv := HMK.out c w2
          have hfin := HNO.out hu
          have HF := Lib.hid hfin
          have hbr3 := hbr2.alloc hbr2.size (.cells #[.int .u8 (c.toNat : Int)] 5)
          rw [hu]
          clear hu hfin
          go_wp2_with fail
          go_roundw
          case rel => exact ⟨i + 3, _, by omega, by go_num, HT2.out, congrArg Value.string HF.out, hbr3⟩
          case measure => simp [intOf]; omega
        · have hu : unres c = false := by simpa using hu
          have hfin := HYES.out hu
          have HF := Lib.hid hfin
          rw [hu]
          clear hu hfin
          go_wp2_with fail
          refine (HES.out _).mono ?_
          rintro e w1 ⟨rfl, q3, rfl⟩
          have hbr3 := below_drewN hbr2 q3
          go_wp2_with fail
          go_roundw
          case rel => exact ⟨i + 3, _, by omega, by go_num, HT2.out, congrArg Value.string HF.out, hbr3⟩
          case measure => simp [intOf]; omega
      · have e1 : ((s[i].toNat : Int) != 37) = true := by rw [bne_iff_ne]; omega
        have ht2 := HP.out h37
        have HT2 := Lib.hid ht2
        have hfin : ofL (normL l) ++ s.extract i (i + 1) = ofL (normL (l ++ [(s[i], false)])) := by rw [hx, ofL_app, HS.out, normC_no (.inl rfl)]
        have HF := Lib.hid hfin
        have hze : (s.extract i (i + 1)).size ≤ 1 := by rw [hx, ofL_size]; exact Nat.le_refl _
        have t2 : (i : Int) + 1 ≤ (s.size : Int) := by omega
        generalize ofL (normL l) = od at *
        clear h37 ht2 hfin hx
        go_wp2_with fail
        go_roundw
        case rel => exact ⟨i + 1, _, by omega, by go_num, HT2.out, congrArg Value.string HF.out, hbr⟩
        case measure => simp [intOf]; omega
    · have hd := HT.out.done hlt
      obtain rfl : i = s.size := by omega
      have hfin : ofL (normL l) = normS s := by unfold normS; rw [hd]; rfl
      have HD := Lib.hid hfin
      clear hd hfin
      go_wp2_with fail
      go_ret
      exact ⟨ret_str HD.out, hbr⟩
end Go.Proofs.YtibhohpamnpkcaaGreatDoor
