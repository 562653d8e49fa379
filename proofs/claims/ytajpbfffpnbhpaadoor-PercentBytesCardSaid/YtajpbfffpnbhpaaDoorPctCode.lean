/- percent.Right, Decode, Normal, Plain, written. -/
import Derived.Test.YtajpbfffpnbhpaaDoorPctEach
import Derived.Test.YtajpbfffpnbhpaaDoorBuilder
import Derived.Test.YtajpbfffpnbhpaaDoorUnder
import Derived.Test.YtajpbfffpnbhpaaDoorAllIn
import Derived.Test.YtajpbfffpnbhpaaDoorWritten
namespace Go.Proofs.YtajpbfffpnbhpaaDoor
open Go.RowKit

theorem right_fn (c : UInt8) (esc : Bool) (w : World) : Calls Tryd.prog 23 #[.int .u8 (c.toNat : Int), .bool esc] w fun e w' => e = .returned (.tuple #[]) ∧ w = w' := by
  go_enter Tryd.func23, Tryd.ntmps23
  go_wp2_with fail
  go_end0
  exact ⟨rfl, rfl⟩
def RightPost (s : ByteArray) (w : World) (e : Ending) (w' : World) : Prop := Below w.heap.size w w' ∧ (((told s).2 = none ∧ e = .returned .nilIface) ∨ (∃ i, (told s).2 = some i ∧ ∃ v, e = .returned v ∧ IsFault w' v 11 i))
theorem percent_Right (s : ByteArray) (w : World) (hs : s.size ≤ 16777216) : Calls Tryd.prog 9 #[.string s] w (RightPost s w) := by
  have hE := Lib.hid (each_Right s hs (fun _ wr => Below w.heap.size w wr) (fun _ _ _ h hb => Bt h hb) (fun _ c esc wr h _ => (right_fn c esc wr).mono fun _ _ ⟨a, b⟩ => ⟨a, b ▸ h⟩) w (Below.refl _ _))
  go_enter Tryd.func9, Tryd.ntmps9
  go_wp2_with fail
  refine hE.out.mono ?_
  rintro e w1 ⟨hb, h⟩
  rcases h with ⟨hn, rfl⟩ | ⟨i, hi, v, rfl, hv⟩
  · have HN := Lib.hid hn
    clear hn
    go_wp2_with fail
    go_ret
    exact ⟨hb, .inl ⟨HN.out, rfl⟩⟩
  · have HN := Lib.hid hi
    clear hi
    go_wp2_with fail
    go_ret
    exact ⟨hb, .inr ⟨i, HN.out, v, rfl, hv⟩⟩

/-- A variable in block b holds bytes of the call's own, from B on. -/
def VarB (w : World) (B b : Nat) (l : List UInt8) : Prop := b < B ∧ ∃ v, w.heap[b]? = some (.cells #[v] 27 (0, 0)) ∧ OwnB w B v l
theorem VarB.below {w w' : World} {B b : Nat} {l : List UInt8} (h : VarB w B b l) (hb : Below w.heap.size w w') : VarB w' B b l := by
  obtain ⟨h1, v, h2, h3⟩ := h
  exact ⟨h1, v, (hb.block b (lt_of_block h2)).trans h2, h3.below hb⟩
theorem OwnB.lt {w : World} {base : Nat} {v : Value} {l : List UInt8} (h : OwnB w base v l) (k : Nat) (hk : v.ownBlock = some k) : base ≤ k ∧ k < w.heap.size := World.ownsRow.lt h k hk
theorem OwnB.setOther {w : World} {B b : Nat} {v : Value} {l : List UInt8} (h : OwnB w B v l) (hb : b < B) (j : Nat) (u : Value) : OwnB (w.setCell ⟨b, j, none⟩ u) B v l := by
  unfold OwnB
  refine World.ownsRow.kept (row := some b) h ⟨rfl, rfl, rfl, by simp [World.setCell], fun k _ hk => Below.heap_setCell _ _ _ _ (fun e => hk (by simp [e]))⟩ (.inr fun e => ?_)
  have := (h.lt b e).1
  omega
set_option maxHeartbeats 1600000 in
theorem decode_fn (B b : Nat) (l : List UInt8) (c : UInt8) (esc : Bool) (w : World) (h : VarB w B b l) (hl : l.length ≤ 268435456) (hB : B ≤ w.heap.size) :
    Calls Tryd.prog 24 #[.int .u8 (c.toNat : Int), .bool esc, .pointer (some ⟨b, 0, none⟩)] w fun e w' => e = .returned (.tuple #[]) ∧ VarB w' B b (l ++ [c]) ∧ ButB B b w w' := by
  obtain ⟨h1, v, h2, h3⟩ := h
  have hlt := lt_of_block h2
  have c0 : w.cell? ⟨b, 0, none⟩ = some v := by rw [cell_of_row w b 0 _ _ _ h2]; rfl
  go_enter Tryd.func24, Tryd.ntmps24
  have hbf : Below w.heap.size w (w.alloc (.cells #[byteV c] 5)) := (Below.refl _ _).alloc (Nat.le_refl _) _
  have hown2 := h3.below hbf
  have hy : BytesSl (w.alloc (.cells #[byteV c] 5)) (.slice (some ⟨w.heap.size, 0, none⟩) 1 1) ⟨#[c]⟩ := BytesSl.lit w [c] _ 1 rfl rfl (by simp)
  go_wp2_with (at_builtin; refine wpList_app_bytes rfl _ _ rfl B _ _ rfl hown2 _ ⟨#[c]⟩ rfl hy (by show l.length + 1 ≤ _; omega) (by simp; omega) ?_)
  intro v3 w3 hown3 hgr
  have hne : v.ownBlock ≠ some b := fun e => by have := (h3.lt b e).1; omega
  have hb3 : w3.heap[b]? = some (.cells #[v] 27 (0, 0)) := by
    have hbf' : Below w.heap.size w (w.alloc (.cells #[.int .u8 (c.toNat : Int)] 5)) := hbf
    rw [hgr.block b (by simp; omega) (fun e => hne e.symm), hbf'.block b hlt]
    exact h2
  have d0 : w3.cell? ⟨b, 0, none⟩ = some v := by rw [cell_of_row w3 b 0 _ _ _ hb3]; rfl
  have f0 : w3.frozen? ⟨b, 0, none⟩ = false := by simp [World.frozen?, hb3]
  have hbe : ButB B b w (w3.setCell ⟨b, 0, none⟩ v3) := (ButB.of_below ((hbf.mono hB).grown hgr (by simp; omega) (fun k hk => (h3.lt k hk).1))).setCell 0 v3
  have hown4 := hown3.setOther h1 0 v3
  have hcell : (w3.setCell ⟨b, 0, none⟩ v3).heap[b]? = some (.cells #[v3] 27 (0, 0)) := by simp [World.setCell, Array.getElem?_modify, hb3]
  obtain ⟨a3, n3, c3, e3⟩ : ∃ a n c, v3 = .slice a n c := by
    rcases hown3.shape with ⟨_, e⟩ | ⟨g, cap, e, _⟩
    · exact ⟨_, _, _, e⟩
    · exact ⟨_, _, _, e⟩
  subst e3
  clear hown3 hgr hown2 hy hbf
  go_wp2_with fail
  go_end0
  exact ⟨rfl, ⟨h1, _, hcell, hown4⟩, hbe⟩

def bytesT (s : ByteArray) : List UInt8 := (told s).1.map (·.1)
def DecodePost (s : ByteArray) (w : World) (e : Ending) (w' : World) : Prop := Below w.heap.size w w' ∧ (((told s).2 = none ∧ ∃ v, e = .returned (.tuple #[v, .nilIface]) ∧ OwnB w' w.heap.size v (bytesT s)) ∨ (∃ i, (told s).2 = some i ∧ ∃ v, e = .returned (.tuple #[.slice none 0 0, v]) ∧ IsFault w' v 11 i))
set_option maxHeartbeats 1600000 in
theorem percent_Decode (s : ByteArray) (w : World) (hs : s.size ≤ 16777216) : Calls Tryd.prog 10 #[.string s] w (DecodePost s w) := by
  have hnew : (w.alloc (.cells #[.slice none 0 0] 27)).heap[w.heap.size]? = some (.cells #[.slice none 0 0] 27 (0, 0)) := heap_alloc_new w _
  have hE := each_Decode w.heap.size s hs (fun L wr => VarB wr (w.heap.size + 1) w.heap.size (L.map (·.1)) ∧ ButB (w.heap.size + 1) w.heap.size (w.alloc (.cells #[.slice none 0 0] 27)) wr)
    (fun _ _ _ h hb => ⟨h.1.below hb, h.2.trans (ButB.of_below (hb.mono (by have := h.2.size; simpa using this)))⟩)
    (fun L c esc wr h hL => (decode_fn _ _ _ c esc wr h.1 (by simp; omega) (by have := h.2.size; simpa using this)).mono fun _ _ ⟨a, b, d⟩ => ⟨a, by simpa using b, h.2.trans d⟩)
    (w.alloc (.cells #[.slice none 0 0] 27)) ⟨⟨by omega, _, hnew, OwnB.nil _ _⟩, ButB.refl _ _ _⟩
  have HE := Lib.hid hE
  clear hE hnew
  go_enter Tryd.func10, Tryd.ntmps10
  go_wp2_with fail
  refine HE.out.mono ?_
  rintro e w1 ⟨⟨hv, hbu⟩, h⟩
  obtain ⟨_, v, h2, h3⟩ := hv
  have hb : Below w.heap.size w w1 := ((Below.refl w.heap.size w).alloc (Nat.le_refl _) _).trans (hbu.below (Nat.le_refl _) (by omega))
  have c0 : w1.cell? ⟨w.heap.size, 0, none⟩ = some v := by rw [cell_of_row w1 w.heap.size 0 _ _ _ h2]; rfl
  have hown : OwnB w1 w.heap.size v (bytesT s) := h3.base' (by omega)
  have HO := Lib.hid hown
  clear h2 h3 hbu hown
  rcases h with ⟨hn, rfl⟩ | ⟨i, hi, u, rfl, hu⟩
  · have HN := Lib.hid hn
    clear hn
    go_wp2_with fail
    go_ret2
    exact ⟨hb, .inl ⟨HN.out, v, rfl, HO.out⟩⟩
  · obtain ⟨q, rfl⟩ := hu.ne_nil
    have HN := Lib.hid hi
    clear hi
    go_wp2_with fail
    go_ret2
    exact ⟨hb, .inr ⟨i, HN.out, _, rfl, hu⟩⟩

def tails : ByteArray := ⟨#[45, 46, 95, 126]⟩
theorem tails_has (c : UInt8) : hasB tails c = decide (c.toNat = 45 ∨ c.toNat = 46 ∨ c.toNat = 95 ∨ c.toNat = 126) := by
  have : ∀ n : Fin 256, hasB tails (UInt8.ofNat n.1) = decide ((UInt8.ofNat n.1).toNat = 45 ∨ (UInt8.ofNat n.1).toNat = 46 ∨ (UInt8.ofNat n.1).toNat = 95 ∨ (UInt8.ofNat n.1).toNat = 126) := by decide +kernel
  have h := this ⟨c.toNat, c.toNat_lt⟩
  simpa using h
set_option maxHeartbeats 1600000 in
theorem percent_Plain (c : UInt8) (w : World) : Calls Tryd.prog 18 #[.int .u8 (c.toNat : Int)] w fun e w' => e = .returned (.bool (unres c)) ∧ w = w' := by
  have hd : unres c = (decide (97 ≤ c.toNat ∧ c.toNat ≤ 122) || (decide (65 ≤ c.toNat ∧ c.toNat ≤ 90) || (decide (48 ≤ c.toNat ∧ c.toNat ≤ 57) || hasB tails c))) := by rw [tails_has]; rfl
  have hix := index_has tails c
  have hcall := fun W => Tryd.strings_IndexByte tails (c.toNat : Int) W
  have hcc : (((c.toNat : Int)).toNat.toUInt8) = c := by simp
  rw [hcc] at hcall
  have HC := Lib.hid hcall
  clear hcall hcc
  have hb := c.toNat_lt
  generalize Lib.indexByte tails.data.toList c = ix at *
  have HD := Lib.hid hd
  have HIX := Lib.hid hix
  clear hd hix
  by_cases h1 : 97 ≤ c.toNat ∧ c.toNat ≤ 122
  · obtain ⟨a1, a2⟩ := h1
    have HV := Lib.hid (show unres c = true by rw [HD.out, decide_eq_true ⟨a1, a2⟩]; rfl)
    go_enter Tryd.func18, Tryd.ntmps18
    go_wp2_with fail
    go_ret
    exact ⟨ret_bool HV.out.symm, rfl⟩
  · by_cases h2 : 65 ≤ c.toNat ∧ c.toNat ≤ 90
    · obtain ⟨a1, a2⟩ := h2
      have HV := Lib.hid (show unres c = true by rw [HD.out, decide_eq_true (show 65 ≤ c.toNat ∧ c.toNat ≤ 90 from ⟨a1, a2⟩)]; simp)
      clear h1
      go_enter Tryd.func18, Tryd.ntmps18
      go_wp2_with fail
      go_ret
      exact ⟨ret_bool HV.out.symm, rfl⟩
    · by_cases h3 : 48 ≤ c.toNat ∧ c.toNat ≤ 57
      · obtain ⟨a1, a2⟩ := h3
        have HV := Lib.hid (show unres c = true by rw [HD.out, decide_eq_true (show 48 ≤ c.toNat ∧ c.toNat ≤ 57 from ⟨a1, a2⟩)]; simp)
        clear h1 h2
        go_enter Tryd.func18, Tryd.ntmps18
        go_wp2_with fail
        go_ret
        exact ⟨ret_bool HV.out.symm, rfl⟩
      · have hv : unres c = hasB tails c := by rw [HD.out, decide_eq_false h1, decide_eq_false h2, decide_eq_false h3]; rfl
        have HV := Lib.hid hv
        clear hv
        have hcs : c.toNat < 48 ∨ (57 < c.toNat ∧ c.toNat < 65) ∨ (90 < c.toNat ∧ c.toNat < 97) ∨ 122 < c.toNat := by omega
        clear h1 h2 h3
        rcases HIX.out with ⟨k1, k2⟩ | ⟨k1, k2⟩
        · have HK := Lib.hid (HV.out.trans k1)
          clear k1
          rcases hcs with h | ⟨h, h'⟩ | ⟨h, h'⟩ | h
          all_goals
            go_enter Tryd.func18, Tryd.ntmps18
            go_wp2_with fail
            refine (HC.out _).mono ?_
            rintro e w2 ⟨rfl, rfl⟩
            go_wp2_with fail
            go_ret
            exact ⟨ret_bool (by rw [HK.out] <;> simp [k2]), rfl⟩
        · have HK := Lib.hid (HV.out.trans k1)
          clear k1
          rcases hcs with h | ⟨h, h'⟩ | ⟨h, h'⟩ | h
          all_goals
            go_enter Tryd.func18, Tryd.ntmps18
            go_wp2_with fail
            refine (HC.out _).mono ?_
            rintro e w2 ⟨rfl, rfl⟩
            go_wp2_with fail
            go_ret
            exact ⟨ret_bool (by rw [HK.out] <;> simp [k2]), rfl⟩

theorem writ2 (n : Nat) (h : n < 256) : writ 16 n 2 = digs 16 2 n := by
  have : ∀ n : Fin 256, writ 16 n.1 2 = digs 16 2 n.1 := by decide +kernel
  exact this ⟨n, h⟩
def percS : ByteArray := ⟨#[37]⟩
theorem perc_app (l : List UInt8) : (⟨#[37]⟩ : ByteArray) ++ ⟨l.toArray⟩ = ⟨(37 :: l).toArray⟩ := by
  apply ByteArray.ext
  apply Array.ext'
  rw [ByteArray.data_append]
  simp
theorem percent_written (c : UInt8) (w : World) : Calls Tryd.prog 27 #[.int .u8 (c.toNat : Int)] w fun e w' => e = .returned (.string ⟨(escW c).toArray⟩) ∧ Below w.heap.size w w' := by
  have hb := c.toNat_lt
  have hw := writ2 c.toNat hb
  have hC := fun W => fold_HexDigits c.toNat 2 W (by omega) (by omega)
  rw [show (min (2 : Int) 16).toNat = 2 from rfl, hw] at hC
  have HC := Lib.hid hC
  have hfin := perc_app (digs 16 2 c.toNat)
  have HF := Lib.hid hfin
  clear hC hw hfin
  go_enter Tryd.func27, Tryd.ntmps27
  go_wp2_with fail
  refine (HC.out _).mono ?_
  rintro e w2 ⟨rfl, hb2⟩
  go_wp2_with fail
  go_ret
  exact ⟨ret_str HF.out, hb2⟩

theorem normC_yes {c : UInt8} (h : unres c = false) : normC (c, true) = escW c := by unfold normC; rw [if_pos ⟨rfl, h⟩]
theorem normC_no {c : UInt8} {esc : Bool} (h : esc = false ∨ unres c = true) : normC (c, esc) = [c] := by
  unfold normC
  rw [if_neg]
  rintro ⟨h1, h2⟩
  simp only at h1 h2
  rcases h with h | h
  · rw [h1] at h; cases h
  · rw [h2] at h; cases h
theorem escW_len (c : UInt8) : (escW c).length = 3 := by unfold escW; simp [digs_length]
theorem normL_snoc (L : List (UInt8 × Bool)) (x : UInt8 × Bool) : normL (L ++ [x]) = normL L ++ normC x := by unfold normL; rw [List.flatMap_append]; simp
theorem normL_len (L : List (UInt8 × Bool)) : (normL L).length ≤ 3 * L.length := by
  induction L with
  | nil => simp [normL]
  | cons x L ih =>
    unfold normL at ih ⊢
    rw [List.flatMap_cons, List.length_append, List.length_cons]
    have : (normC x).length ≤ 3 := by
      unfold normC
      split
      · rw [escW_len]; exact Nat.le_refl _
      · simp
    omega

set_option maxHeartbeats 1600000 in
theorem normal_fn (B b : Nat) (L : List (UInt8 × Bool)) (c : UInt8) (esc : Bool) (w : World) (h : Bld w B b (normL L)) (hl : L.length ≤ 16777216) (hB : B ≤ w.heap.size) :
    Calls Tryd.prog 25 #[.int .u8 (c.toNat : Int), .bool esc, .pointer (some ⟨b, 0, none⟩)] w fun e w' => e = .returned (.tuple #[]) ∧ Bld w' B b (normL (L ++ [(c, esc)])) ∧ ButB B b w w' := by
  have hnl := normL_len L
  have hsn := fun x => normL_snoc L x
  have HS := Lib.hid hsn
  clear hsn
  by_cases hx : esc = true ∧ unres c = false
  · obtain ⟨rfl, hu⟩ := hx
    have hfin := Lib.hid ((HS.out (c, true)).trans (by rw [normC_yes hu]))
    have cP := fun W => percent_Plain c W
    rw [hu] at cP
    have CP := Lib.hid cP
    clear cP hu
    generalize normL L = l at *
    have hel := escW_len c
    have hcw := fun W => percent_written c W
    generalize hew : escW c = ew at *
    have CW := Lib.hid hcw
    have hsz : (⟨ew.toArray⟩ : ByteArray).size = 3 := by show ew.toArray.size = 3; simpa using hel
    have hdl : (⟨ew.toArray⟩ : ByteArray).data.toList = ew := rfl
    have cS := fun W hb hB => bld_WriteString B b l ⟨ew.toArray⟩ W hb (by omega) hB
    rw [hdl] at cS
    have CS := Lib.hid cS
    clear cS hcw hew hsz hel hdl
    go_enter Tryd.func25, Tryd.ntmps25
    go_wp2_with fail
    refine (CP.out _).mono ?_
    rintro e w2 ⟨rfl, rfl⟩
    go_wp2_with fail
    refine (CW.out _).mono ?_
    rintro e w3 ⟨rfl, hb3⟩
    have hbr3 := h.below hb3
    have hs3 := hb3.size
    go_wp2_with fail
    refine (CS.out _ hbr3 (by omega)).mono ?_
    rintro e w4 ⟨rfl, hbr4, hbu4⟩
    have hbu := (ButB.of_below (b := b) (hb3.mono hB)).trans hbu4
    rw [← hfin.out] at hbr4
    go_wp2_with fail
    go_end0
    exact ⟨rfl, hbr4, hbu⟩
  · have hn : esc = false ∨ unres c = true := by
      cases esc
      · exact .inl rfl
      · exact .inr (by simpa using fun h => hx ⟨rfl, h⟩)
    have hfin := Lib.hid ((HS.out (c, esc)).trans (by rw [normC_no hn]))
    generalize normL L = l at *
    have cW := Lib.hid (fun W hb hB => bld_WriteByte B b l c W hb (by omega) hB)
    clear hx
    cases esc with
    | false =>
      clear hn
      go_enter Tryd.func25, Tryd.ntmps25
      go_wp2_with fail
      refine (cW.out _ h hB).mono ?_
      rintro e w4 ⟨rfl, hbr4, hbu4⟩
      rw [← hfin.out] at hbr4
      go_wp2_with fail
      go_end0
      exact ⟨rfl, hbr4, hbu4⟩
    | true =>
      have hu : unres c = true := by
        rcases hn with h | h
        · cases h
        · exact h
      have cP := fun W => percent_Plain c W
      rw [hu] at cP
      have CP := Lib.hid cP
      clear cP hu hn
      go_enter Tryd.func25, Tryd.ntmps25
      go_wp2_with fail
      refine (CP.out _).mono ?_
      rintro e w2 ⟨rfl, rfl⟩
      go_wp2_with fail
      refine (cW.out _ h hB).mono ?_
      rintro e w4 ⟨rfl, hbr4, hbu4⟩
      rw [← hfin.out] at hbr4
      go_wp2_with fail
      go_end0
      exact ⟨rfl, hbr4, hbu4⟩

def normS (s : ByteArray) : ByteArray := ⟨(normL (told s).1).toArray⟩
def NormalPost (s : ByteArray) (w : World) (e : Ending) (w' : World) : Prop := Below w.heap.size w w' ∧ (((told s).2 = none ∧ e = .returned (.tuple #[.string (normS s), .nilIface])) ∨ (∃ i, (told s).2 = some i ∧ ∃ v, e = .returned (.tuple #[.string ⟨#[]⟩, v]) ∧ IsFault w' v 11 i))
set_option maxHeartbeats 1600000 in
theorem percent_Normal (s : ByteArray) (w : World) (hs : s.size ≤ 16777216) : Calls Tryd.prog 11 #[.string s] w (NormalPost s w) := by
  have hnew : (w.alloc (.cells #[.pointer none, .slice none 0 0] 47)).heap[w.heap.size]? = some (.cells #[.pointer none, .slice none 0 0] 47) := heap_alloc_new w _
  have hE := each_Normal w.heap.size s hs (fun L wr => Bld wr (w.heap.size + 1) w.heap.size (normL L) ∧ ButB (w.heap.size + 1) w.heap.size (w.alloc (.cells #[.pointer none, .slice none 0 0] 47)) wr)
    (fun _ _ _ h hb => ⟨h.1.below hb, h.2.trans (ButB.of_below (hb.mono (by have := h.2.size; simpa using this)))⟩)
    (fun L c esc wr h hL => (normal_fn _ _ _ c esc wr h.1 (by omega) (by have := h.2.size; simpa using this)).mono fun _ _ ⟨a, b, d⟩ => ⟨a, b, h.2.trans d⟩)
    (w.alloc (.cells #[.pointer none, .slice none 0 0] 47)) ⟨Bld.new rfl hnew (by omega), ButB.refl _ _ _⟩
  have HE := Lib.hid hE
  clear hE hnew
  go_enter Tryd.func11, Tryd.ntmps11
  go_wp2_with fail
  refine HE.out.mono ?_
  rintro e w1 ⟨⟨hbr, hbu⟩, h⟩
  have hb : Below w.heap.size w w1 := ((Below.refl w.heap.size w).alloc (Nat.le_refl _) _).trans (hbu.below (Nat.le_refl _) (by omega))
  have hs1 : w.heap.size + 1 ≤ w1.heap.size := by have := hbu.size; simpa using this
  clear hbu
  rcases h with ⟨hn, rfl⟩ | ⟨i, hi, u, rfl, hu⟩
  · have HN := Lib.hid hn
    clear hn
    go_wp2_with fail
    refine (bld_String _ _ _ _ hbr hs1).mono ?_
    rintro e w2 ⟨rfl, hb2⟩
    have hb3 := hb.trans hb2
    go_wp2_with fail
    go_ret2
    exact ⟨hb3, .inl ⟨HN.out, rfl⟩⟩
  · obtain ⟨q, rfl⟩ := hu.ne_nil
    have HN := Lib.hid hi
    clear hi hbr
    go_wp2_with fail
    go_ret2
    exact ⟨hb, .inr ⟨i, HN.out, _, rfl, hu⟩⟩
end Go.Proofs.YtajpbfffpnbhpaaDoor
