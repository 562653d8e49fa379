/- subst.pieces: the parts of a pattern with variables. -/
import Derived.Test.YtipenfeplampeaaDoorSubstPlainM6
import Derived.Test.YtipenfeplampeaaDoorShelf
import Derived.Lib.IndexMore
import Derived.Deep.DeepCutAuto
import Derived.Deep.DeepMust
import Derived.Test.YtipenfeplampeaaDoorSubstPlainM1
import Derived.Test.YtipenfeplampeaaDoorSubstPlainM5

namespace Go.Proofs.YtipenfeplampeaaDoor
open Go.RowKit

theorem pre_pair (b : UInt8) (l : List UInt8) : ([36, 40] : List UInt8).isPrefixOf (b :: l) = decide (b = 36 ∧ l.head? = some 40) := by
  cases l with
  | nil => simp [List.isPrefixOf]
  | cons c l =>
    rw [Bool.eq_iff_iff]
    simp [List.isPrefixOf]
    constructor
    · rintro ⟨rfl, rfl⟩; exact ⟨rfl, rfl⟩
    · rintro ⟨rfl, rfl⟩; exact ⟨rfl, rfl⟩
theorem idx_pair : ∀ l : List UInt8, Lib.index l [36, 40] = -1 ∨ ∃ n : Nat, Lib.index l [36, 40] = (n : Int) ∧ n + 2 ≤ l.length := by
  intro l
  induction l with
  | nil => exact .inl rfl
  | cons c l ih =>
    rw [Lib.index, pre_pair]
    by_cases h : c = 36 ∧ l.head? = some 40
    · rw [decide_eq_true h, if_pos rfl]
      refine .inr ⟨0, rfl, ?_⟩
      cases l with
      | nil => simp at h
      | cons d l => simp
    · rw [decide_eq_false h, if_neg (by decide)]
      rcases ih with h1 | ⟨n, h1, h2⟩
      · rw [h1]; exact .inl rfl
      · rw [h1]
        refine .inr ⟨n + 1, ?_, by rw [List.length_cons]; omega⟩
        rw [if_neg (by simp <;> omega)]
        simp
/-- What is left to be told, from a place on. -/
def PcSt (p : ByteArray) (acc : List PcS) (at_ : Nat) : Prop := at_ ≤ p.size ∧ acc.length ≤ 2 * at_ ∧ ∃ f, p.size - at_ < f ∧ acc ++ (pcF p f at_).1 = (pcs p).1 ∧ (pcF p f at_).2 = (pcs p).2
theorem PcSt.zero (p : ByteArray) : PcSt p [] 0 := ⟨Nat.zero_le _, by simp, p.size + 1, by omega, rfl, rfl⟩
theorem PcSt.done {p : ByteArray} {acc : List PcS} {k : Nat} (h : PcSt p acc k) (hk : ¬ k < p.size) : (pcs p) = (acc, -1) := by
  obtain ⟨_, _, f, hf, h1, h2⟩ := h
  obtain ⟨f, rfl⟩ : ∃ f', f = f' + 1 := ⟨f - 1, by omega⟩
  rw [pcF, if_neg hk] at h1 h2
  rw [← Prod.eta (pcs p), ← h1, ← h2, List.append_nil]
theorem PcSt.none {p : ByteArray} {acc : List PcS} {k : Nat} (h : PcSt p acc k) (hk : k < p.size) (hi : Lib.index (p.extract k p.size).data.toList [36, 40] = -1) : (pcs p) = (acc ++ [⟨p.extract k p.size, false, k⟩], -1) := by
  obtain ⟨_, _, f, hf, h1, h2⟩ := h
  obtain ⟨f, rfl⟩ : ∃ f', f = f' + 1 := ⟨f - 1, by omega⟩
  rw [pcF, if_pos hk, hi, if_pos (by decide)] at h1 h2
  rw [← Prod.eta (pcs p), ← h1, ← h2]
/-- The part ahead of a variable. -/
def preP (p : ByteArray) (k n : Nat) : List PcS := if 0 < n then [⟨p.extract k (k + n), false, k⟩] else []
theorem pre_int (p : ByteArray) (k n : Nat) : (if (0 : Int) < (n : Int) then [(⟨p.extract k (k + n), false, k⟩ : PcS)] else []) = preP p k n := by
  unfold preP
  by_cases h : 0 < n
  · rw [if_pos h, if_pos (by omega)]
  · rw [if_neg h, if_neg (by omega)]
theorem PcSt.bad {p : ByteArray} {acc : List PcS} {k n : Nat} (h : PcSt p acc k) (hk : k < p.size) (hi : Lib.index (p.extract k p.size).data.toList [36, 40] = (n : Int)) (hc : cutH 41 (p.extract (k + n + 2) p.size) = false) : (pcs p) = (acc ++ preP p k n, ((k + n : Nat) : Int)) := by
  obtain ⟨_, _, f, hf, h1, h2⟩ := h
  obtain ⟨f, rfl⟩ : ∃ f', f = f' + 1 := ⟨f - 1, by omega⟩
  rw [pcF, if_pos hk, hi, if_neg (by omega), Int.toNat_natCast, if_neg (by rw [hc]; decide), pre_int] at h1 h2
  rw [← Prod.eta (pcs p), ← h1, ← h2]
theorem PcSt.step {p : ByteArray} {acc : List PcS} {k n : Nat} (h : PcSt p acc k) (hk : k < p.size) (hi : Lib.index (p.extract k p.size).data.toList [36, 40] = (n : Int)) (hc : cutH 41 (p.extract (k + n + 2) p.size) = true)
    (hb : k + n + 2 + (cutN 41 (p.extract (k + n + 2) p.size)).size + 1 ≤ p.size) : PcSt p (acc ++ preP p k n ++ [⟨cutN 41 (p.extract (k + n + 2) p.size), true, k + n⟩]) (k + n + 2 + (cutN 41 (p.extract (k + n + 2) p.size)).size + 1) := by
  obtain ⟨_, hl, f, hf, h1, h2⟩ := h
  obtain ⟨f, rfl⟩ : ∃ f', f = f' + 1 := ⟨f - 1, by omega⟩
  rw [pcF, if_pos hk, hi, if_neg (by omega), Int.toNat_natCast, if_pos hc, pre_int] at h1 h2
  refine ⟨hb, ?_, f, by omega, ?_, h2⟩
  · have : (preP p k n).length ≤ 1 := by unfold preP; split <;> simp
    simp only [List.length_append, List.length_cons, List.length_nil]
    omega
  · rw [← h1]; simp
end Go.Proofs.YtipenfeplampeaaDoor

/- subst.pieces: the walk. -/
namespace Go.Proofs.YtipenfeplampeaaDoor
open Go.RowKit

theorem cut_room {c : UInt8} {s : ByteArray} (h : cutH c s = true) : (cutN c s).size + 1 ≤ s.size := by
  obtain ⟨i, _, _, _, h4, h5⟩ := cut_lim c s
  rcases h5 with ⟨_, _, h6⟩ | ⟨h6, _⟩
  · rw [h] at h6; cases h6
  · omega
set_option maxHeartbeats 6400000 in
set_option maxRecDepth 100000 in
theorem sub_pieces (p : ByteArray) (w : World) (hm : MaxAt w) (hp : p.size ≤ 16777216) :
    Calls Tryd.prog 29 #[.string p] w fun e w' => ∃ v, e = .returned (.tuple #[v, .int .i64 (pcs p).2]) ∧ OwnPc w' w.heap.size v (pcs p).1 ∧ Below w.heap.size w w' := by
  have HM := Lib.hid hm
  clear hm
  go_enter Tryd.func29, Tryd.ntmps29
  go_wp2_with fail
  go_loopw [2, 4] (fun v x wr => ∃ (k : Nat) (acc : List PcS), x = .int .i64 k ∧ OwnPc wr w.heap.size v acc ∧ PcSt p acc k ∧ Below w.heap.size w wr) (fun _ x _ => p.size - (intOf x).toNat)
  case atStart => exact ⟨0, [], rfl, OwnPc.nil _ _, PcSt.zero p, Below.refl _ _⟩
  case round =>
    obtain ⟨k, acc, rfl, hown, hst, hbr⟩ := hrel
    have hkle := hst.1
    have hacc := hst.2.1
    by_cases hlt : k < p.size
    · have hkI : (k : Int) < (p.size : Int) := by omega
      have hkI2 : (k : Int) ≤ (p.size : Int) := by omega
      have hes := extract_tail_size p k hkle
      have hidx := idx_pair (p.extract k p.size).data.toList
      have hlen : (p.extract k p.size).data.toList.length = (p.extract k p.size).size := rfl
      rw [hlen, hes] at hidx
      obtain ⟨mx, hmx⟩ := HM.out.below hbr
      have hC := fun W hm => Tryd.strings_Index (p.extract k p.size) ⟨#[36, 40]⟩ mx W (by omega) hm
      rw [show (⟨#[36, 40]⟩ : ByteArray).data.toList = [36, 40] from rfl] at hC
      have HC := Lib.hid hC
      have hnone := fun h => hst.none hlt h
      have hbad := fun n h h2 => hst.bad (n := n) hlt h h2
      have hstep := fun n h h2 h3 => hst.step (n := n) hlt h h2 h3
      have HNONE := Lib.hid hnone
      have HBAD := Lib.hid hbad
      have HSTEP := Lib.hid hstep
      clear hC hnone hbad hstep hst hlen
      have hws := hbr.size
      go_wp2_with fail
      refine (HC.out _ hmx).mono ?_
      rintro e w2 ⟨rfl, rfl⟩
      rcases hidx with hi | ⟨n, hi, hn⟩
      · rw [hi]
        have HR := Lib.hid (HNONE.out hi)
        have ho2 := hown.below ((Below.refl w2.heap.size w2).alloc (Nat.le_refl _) (.cells #[.string (p.extract k p.size), .bool false, .int .i64 (k : Int)] 73))
        have hbr2 := hbr.alloc hbr.size (.cells #[.string (p.extract k p.size), .bool false, .int .i64 (k : Int)] 73)
        clear hi HBAD HSTEP HNONE HC hmx
        go_wp2_with (at_builtin; refine wpList_app_piece rfl (.tmp 19) (.tmp 25) rfl w.heap.size _ _ rfl ho2 w2.heap.size 1 ⟨p.extract k p.size, false, k⟩ rfl (heap_alloc_new w2 _) (by omega) (by simp; omega) ?_)
        intro v4 w4 hown4 hg4
        have hbr4 := ho2.under hbr2 (Nat.le_refl _) hg4
        clear ho2 hbr2 hown hbr hg4
        go_wp2_with fail
        go_ret2
        rw [HR.out]
        exact ⟨v4, rfl, hown4, hbr4⟩
      · rw [hi]
        have HB := Lib.hid (HBAD.out n hi)
        have HS := Lib.hid (HSTEP.out n hi)
        have hnI : ¬ (n : Int) < 0 := by omega
        clear hi HBAD HSTEP HNONE HC hmx
        have z1 : IntKind.i64.wrap ((k : Int) + (n : Int)) = (k : Int) + (n : Int) := IntWalk.i64_in _ (by omega)
        have y1 : (0 : Int) ≤ (k : Int) + (n : Int) := by omega
        have y2 : (k : Int) ≤ (k : Int) + (n : Int) := by omega
        have y3 : (k : Int) + (n : Int) ≤ (p.size : Int) := by omega
        have y4 : ((k : Int) + (n : Int)).toNat = k + n := by omega
        go_upto_if 28 with (fail)
        go_cut [2, 4] (fun v x wx => x = .int .i64 ((k + n : Nat) : Int) ∧ OwnPc wx w.heap.size v (acc ++ preP p k n) ∧ Below w.heap.size w wx)
        case first =>
          clear HB HS
          by_cases h0 : 0 < n
          · have h0I : (0 : Int) < (n : Int) := by omega
            have HP := Lib.hid (show preP p k n = [⟨p.extract k (k + n), false, k⟩] by unfold preP; rw [if_pos h0])
            have ho2 := hown.below ((Below.refl w2.heap.size w2).alloc (Nat.le_refl _) (.cells #[.string (p.extract k (k + n)), .bool false, .int .i64 (k : Int)] 73))
            have hbr2 := hbr.alloc hbr.size (.cells #[.string (p.extract k (k + n)), .bool false, .int .i64 (k : Int)] 73)
            clear h0
            go_wp2_with (at_builtin; refine wpList_app_piece rfl (.tmp 29) (.tmp 38) rfl w.heap.size _ _ rfl ho2 w2.heap.size 1 ⟨p.extract k (k + n), false, k⟩ rfl (heap_alloc_new w2 _) (by omega) (by simp; omega) ?_)
            intro v4 w4 hown4 hg4
            have hbr4 := ho2.under hbr2 (Nat.le_refl _) hg4
            clear ho2 hbr2 hown hbr hg4
            go_wp2_with fail
            go_meet
            exact ⟨by go_num, by rw [HP.out]; exact hown4, hbr4⟩
          · obtain rfl : n = 0 := by omega
            have HP := Lib.hid (show preP p k 0 = [] by unfold preP; rw [if_neg h0])
            clear h0
            go_wp2_with fail
            go_meet
            exact ⟨by go_num, by rw [HP.out, List.append_nil]; exact hown, hbr⟩
        case rest =>
          obtain ⟨rfl, hown3, hbr3⟩ := hcut
          have hacc2 : (acc ++ preP p k n).length ≤ 16777217 * 2 := by
            have : (preP p k n).length ≤ 1 := by unfold preP; split <;> simp
            rw [List.length_append]; omega
          clear hown hbr z1 y1 y2 y3 y4 hkI hkI2 hacc hes hkle hnI hws
          generalize acc ++ preP p k n = acc2 at *
          have hq2 : k + n + 2 ≤ p.size := by omega
          have hkq : k ≤ k + n := by omega
          generalize k + n = q at *
          have x1 : IntKind.i64.wrap ((q : Int) + 2) = (q : Int) + 2 := IntWalk.i64_in _ (by omega)
          have x2 : (0 : Int) ≤ (q : Int) + 2 := by omega
          have x3 : (q : Int) + 2 ≤ (p.size : Int) := by omega
          have x4 : ((q : Int) + 2).toNat = q + 2 := by omega
          have hsz2 := extract_tail_size p (q + 2) hq2
          have hCC := Lib.hid (fun W => strings_Cut1 (p.extract (q + 2) p.size) 41 W (by omega))
          have hroom : cutH 41 (p.extract (q + 2) p.size) = true → q + 2 + (cutN 41 (p.extract (q + 2) p.size)).size + 1 ≤ p.size := fun h => by have := cut_room h; omega
          have HRM := Lib.hid hroom
          clear hroom hsz2
          generalize cutN 41 (p.extract (q + 2) p.size) = nm at *
          generalize cutV 41 (p.extract (q + 2) p.size) = rv at *
          generalize cutH 41 (p.extract (q + 2) p.size) = hh at *
          go_wp2_with fail
          refine (hCC.out _).mono ?_
          rintro e w5 ⟨rfl, qd, rfl⟩
          have hbd : Below wc.heap.size wc (wc.drewN qd) := below_drewN (Below.refl _ _) qd
          have hown5 := hown3.below hbd
          have hbr5 := Bt hbr3 hbd
          clear hown3 hbr3 hbd hCC
          generalize wc.drewN qd = w5 at *
          cases hh with
          | false =>
            have HR := Lib.hid (HB.out rfl)
            clear HB HS
            go_wp2_with fail
            go_ret2
            rw [HR.out]
            exact ⟨_, rfl, hown5, hbr5⟩
          | true =>
            have hle := HRM.out rfl
            have HR := Lib.hid (HS.out rfl hle)
            clear HB HS HRM
            have ho2 := hown5.below ((Below.refl w5.heap.size w5).alloc (Nat.le_refl _) (.cells #[.string nm, .bool true, .int .i64 (q : Int)] 73))
            have hbr2 := hbr5.alloc hbr5.size (.cells #[.string nm, .bool true, .int .i64 (q : Int)] 73)
            have hws5 := hbr5.size
            have u1 : IntKind.i64.wrap (2 + (nm.size : Int)) = 2 + (nm.size : Int) := IntWalk.i64_in _ (by omega)
            have u2 : IntKind.i64.wrap (2 + (nm.size : Int) + 1) = 2 + (nm.size : Int) + 1 := IntWalk.i64_in _ (by omega)
            have u3 : IntKind.i64.wrap ((q : Int) + (2 + (nm.size : Int) + 1)) = (q : Int) + (2 + (nm.size : Int) + 1) := IntWalk.i64_in _ (by omega)
            go_wp2_with (at_builtin; refine wpList_app_piece rfl (.tmp 56) (.tmp 60) rfl w.heap.size _ _ rfl ho2 w5.heap.size 1 ⟨nm, true, q⟩ rfl (heap_alloc_new w5 _) (by omega) (by simp; omega) ?_)
            intro v4 w4 hown4 hg4
            have hbr4 := ho2.under hbr2 (Nat.le_refl _) hg4
            clear ho2 hbr2 hown5 hbr5 hg4
            go_wp2_with fail
            go_roundw
            case rel => exact ⟨q + 2 + nm.size + 1, _, by go_num, hown4, HR.out, hbr4⟩
            case measure => simp [intOf]; omega
    · have hkI : ¬ (k : Int) < (p.size : Int) := by omega
      have HR := Lib.hid (hst.done hlt)
      clear hst hlt
      go_wp2_with fail
      go_ret2
      rw [HR.out]
      exact ⟨_, rfl, hown, hbr⟩
end Go.Proofs.YtipenfeplampeaaDoor

/- slices.IndexFunc, of rows of what subst has. -/
namespace Go.Proofs.YtipenfeplampeaaDoor
open Go.RowKit

def findG {α : Type} (P : α → Bool) (l : List α) : Int := match l.findIdx? P with | some i => (i : Int) | none => -1
theorem findG_hit {α : Type} {P : α → Bool} {l : List α} {i : Nat} {x : α} (hx : l[i]? = some x) (h : P x = true) (hall : ∀ (j : Nat) (y : α), j < i → l[j]? = some y → P y = false) : findG P l = (i : Int) := by
  have : l.findIdx? P = some i := by
    obtain ⟨hi, rfl⟩ := List.getElem?_eq_some_iff.1 hx
    rw [List.findIdx?_eq_some_iff_getElem]
    exact ⟨hi, h, fun j hj => by rw [hall j _ hj (List.getElem?_eq_getElem (by omega))]; decide⟩
  unfold findG; rw [this]
theorem findG_none {α : Type} {P : α → Bool} {l : List α} (hall : ∀ (j : Nat) (y : α), l[j]? = some y → P y = false) : findG P l = -1 := by
  have : l.findIdx? P = none := by
    rw [List.findIdx?_eq_none_iff]
    intro x hx
    obtain ⟨j, hj⟩ := List.getElem?_of_mem hx
    exact hall j x hj
  unfold findG; rw [this]
/-- Rows of classes, of variables, of numbers, from an offset of a block on. -/
def ClsAt (w : World) (b off : Nat) (l : List (ByteArray × ByteArray × Nat)) : Prop := b < w.heap.size ∧ ∀ (i : Nat) x, l[i]? = some x → w.cell? ⟨b, off + i * 3, none⟩ = some (.string x.1) ∧ w.cell? ⟨b, off + i * 3 + 1, none⟩ = some (.string x.2.1) ∧ w.cell? ⟨b, off + i * 3 + 2, none⟩ = some (.int .i64 (x.2.2 : Nat))
theorem ClsAt.below {w w' : World} {b off : Nat} {l : List (ByteArray × ByteArray × Nat)} (h : ClsAt w b off l) (hb : Below w.heap.size w w') : ClsAt w' b off l :=
  ⟨Nat.lt_of_lt_of_le h.1 hb.size, fun i x hx => ⟨(hb.cell (p := ⟨b, _, none⟩) h.1).trans (h.2 i x hx).1, (hb.cell (p := ⟨b, _, none⟩) h.1).trans (h.2 i x hx).2.1, (hb.cell (p := ⟨b, _, none⟩) h.1).trans (h.2 i x hx).2.2⟩⟩
def NumAt (w : World) (b off : Nat) (l : List Nat) : Prop := b < w.heap.size ∧ ∀ (i : Nat) x, l[i]? = some x → w.cell? ⟨b, off + i, none⟩ = some (.int .i64 (x : Int))
theorem NumAt.below {w w' : World} {b off : Nat} {l : List Nat} (h : NumAt w b off l) (hb : Below w.heap.size w w') : NumAt w' b off l :=
  ⟨Nat.lt_of_lt_of_le h.1 hb.size, fun i x hx => (hb.cell (p := ⟨b, _, none⟩) h.1).trans (h.2 i x hx)⟩
/-- A slice of strings that lies anywhere: what a variable's values are. -/
def StrsV (w : World) (v : Value) (l : List ByteArray) : Prop := ∃ (a : Option Addr) (cap : Nat), v = .slice a l.length cap ∧ l.length ≤ cap ∧ ∀ (i : Nat) s, l[i]? = some s → ∃ b off, a = some ⟨b, off, none⟩ ∧ b < w.heap.size ∧ w.cell? ⟨b, off + i, none⟩ = some (.string s)
theorem StrsV.below {w w' : World} {v : Value} {l : List ByteArray} (h : StrsV w v l) (hb : Below w.heap.size w w') : StrsV w' v l := by
  obtain ⟨a, cap, e, hc, h⟩ := h
  refine ⟨a, cap, e, hc, fun i s hs => ?_⟩
  obtain ⟨b, off, e2, hlt, hcell⟩ := h i s hs
  exact ⟨b, off, e2, Nat.lt_of_lt_of_le hlt hb.size, (hb.cell (p := ⟨b, _, none⟩) hlt).trans hcell⟩
/-- A slice of variables that lies anywhere: names, and what lies behind them. -/
def VarSl (w : World) (a : Option Addr) (l : List (ByteArray × Value)) : Prop := ∀ (i : Nat) x, l[i]? = some x → ∃ b off, a = some ⟨b, off, none⟩ ∧ b < w.heap.size ∧ w.cell? ⟨b, off + i * 2, none⟩ = some (.string x.1) ∧ w.cell? ⟨b, off + i * 2 + 1, none⟩ = some x.2
theorem VarSl.below {w w' : World} {a : Option Addr} {l : List (ByteArray × Value)} (h : VarSl w a l) (hb : Below w.heap.size w w') : VarSl w' a l := by
  intro i v hv
  obtain ⟨b, off, e, hlt, h0, h1⟩ := h i v hv
  exact ⟨b, off, e, Nat.lt_of_lt_of_le hlt hb.size, (hb.cell (p := ⟨b, _, none⟩) hlt).trans h0, (hb.cell (p := ⟨b, _, none⟩) hlt).trans h1⟩
def VarsSl (w : World) (a : Option Addr) (l : List SVar) : Prop := ∃ us, VarSl w a us ∧ us.length = l.length ∧ ∀ (i : Nat) (v : SVar), l[i]? = some v → ∃ u, us[i]? = some (v.1, u) ∧ StrsV w u v.2
theorem VarsSl.below {w w' : World} {a : Option Addr} {l : List SVar} (h : VarsSl w a l) (hb : Below w.heap.size w w') : VarsSl w' a l := by
  obtain ⟨us, h1, h2, h3⟩ := h
  refine ⟨us, h1.below hb, h2, fun i v hv => ?_⟩
  obtain ⟨u, hu, hs⟩ := h3 i v hv
  exact ⟨u, hu, hs.below hb⟩
/-- A test that a closure makes of a list's elements, in whatever world lies behind w. -/
def TestCls (w : World) (f : FuncId) (caps : Array Value) (P : ByteArray × ByteArray × Nat → Bool) (l : List (ByteArray × ByteArray × Nat)) : Prop := ∀ (W : World) (x : ByteArray × ByteArray × Nat), x ∈ l → Below w.heap.size w W → Calls Tryd.prog f (#[.agg #[.string x.1, .string x.2.1, .int .i64 (x.2.2 : Nat)]] ++ caps) W fun e w' => e = .returned (.bool (P x)) ∧ Below W.heap.size W w'
set_option maxHeartbeats 1600000 in
set_option maxRecDepth 100000 in
theorem cls_IndexFunc (b off cap : Nat) (l : List (ByteArray × ByteArray × Nat)) (f : FuncId) (caps : Array Value) (P : ByteArray × ByteArray × Nat → Bool) (w : World) (hsl : ClsAt w b off l) (hl : l.length ≤ 16777216) (eg : ∀ args w, (callFunc f args).run Tryd.prog w = .ok (.enter f args) w) (hf : TestCls w f caps P l) :
    Calls Tryd.prog 40 #[.slice (some ⟨b, off, none⟩) l.length cap, .func (.func f) #[] caps] w fun e w' => e = .returned (.int .i64 (findG P l)) ∧ Below w.heap.size w w' := by
  have hF := Lib.hid hf
  clear hf
  go_enter Tryd.func40, Tryd.ntmps40
  go_wp2_with fail
  go_loopw [8] (fun x wr => ∃ i : Nat, i ≤ l.length ∧ x = .int .i64 i ∧ Below w.heap.size w wr ∧ ∀ (j : Nat) (y : ByteArray × ByteArray × Nat), j < i → l[j]? = some y → P y = false) (fun x _ => l.length - (intOf x).toNat)
  case atStart => exact ⟨0, Nat.zero_le _, rfl, Below.refl _ _, fun j y h => by omega⟩
  case round =>
    obtain ⟨i, hil, rfl, hbr, hall⟩ := hrel
    have HA := Lib.hid hall
    clear hall
    by_cases hlt : i < l.length
    · obtain ⟨x, hx⟩ : ∃ x, l[i]? = some x := ⟨_, List.getElem?_eq_getElem hlt⟩
      obtain ⟨d0, d1, d2⟩ := (hsl.below hbr).2 i x hx
      have hbw := (hsl.below hbr).1
      have hhit := fun h => findG_hit hx h HA.out
      have hst : P x = false → ∀ (j : Nat) (y : ByteArray × ByteArray × Nat), j < i + 1 → l[j]? = some y → P y = false := fun h j y hj hy => by
        by_cases hji : j = i
        · subst hji; rw [hx] at hy; cases hy; exact h
        · exact HA.out j y (by omega) hy
      have HHIT := Lib.hid hhit
      have HST := Lib.hid hst
      have cF := Lib.hid (hF.out wr x (List.mem_of_getElem? hx) hbr)
      obtain ⟨xn, xa, xz⟩ := x
      simp only at d0 d1 d2
      have hiI : (i : Int) < (l.length : Int) := by omega
      clear hhit hst hx HA hF
      generalize P _ = r at *
      go_wp2_with fail
      refine cF.out.mono ?_
      rintro e w2 ⟨rfl, hb2⟩
      have hbr2 := Bt hbr hb2
      cases r
      · have HX := Lib.hid (HST.out rfl)
        go_wp2_with fail
        go_roundw
        case rel => exact ⟨i + 1, by omega, by go_num, hbr2, HX.out⟩
        case measure => simp [intOf]; omega
      · have HX := Lib.hid (HHIT.out rfl)
        go_wp2_with fail
        go_ret
        exact ⟨ret_i64 HX.out.symm, hbr2⟩
    · obtain rfl : i = l.length := by omega
      have hn : findG P l = -1 := findG_none fun j y hy => HA.out j y (List.getElem?_eq_some_iff.1 hy).1 hy
      have HN := Lib.hid hn
      clear hn
      go_wp2_with fail
      go_ret
      exact ⟨ret_i64 HN.out.symm, hbr⟩
/-- A test that a closure makes of a list's elements, in whatever world lies behind w. -/
def TestNum (w : World) (f : FuncId) (caps : Array Value) (P : Nat → Bool) (l : List (Nat)) : Prop := ∀ (W : World) (x : Nat), x ∈ l → Below w.heap.size w W → Calls Tryd.prog f (#[.int .i64 (x : Int)] ++ caps) W fun e w' => e = .returned (.bool (P x)) ∧ Below W.heap.size W w'
set_option maxHeartbeats 1600000 in
set_option maxRecDepth 100000 in
theorem num_IndexFunc (b off cap : Nat) (l : List (Nat)) (f : FuncId) (caps : Array Value) (P : Nat → Bool) (w : World) (hsl : NumAt w b off l) (hl : l.length ≤ 16777216) (eg : ∀ args w, (callFunc f args).run Tryd.prog w = .ok (.enter f args) w) (hf : TestNum w f caps P l) :
    Calls Tryd.prog 76 #[.slice (some ⟨b, off, none⟩) l.length cap, .func (.func f) #[] caps] w fun e w' => e = .returned (.int .i64 (findG P l)) ∧ Below w.heap.size w w' := by
  have hF := Lib.hid hf
  clear hf
  go_enter Tryd.func76, Tryd.ntmps76
  go_wp2_with fail
  go_loopw [8] (fun x wr => ∃ i : Nat, i ≤ l.length ∧ x = .int .i64 i ∧ Below w.heap.size w wr ∧ ∀ (j : Nat) (y : Nat), j < i → l[j]? = some y → P y = false) (fun x _ => l.length - (intOf x).toNat)
  case atStart => exact ⟨0, Nat.zero_le _, rfl, Below.refl _ _, fun j y h => by omega⟩
  case round =>
    obtain ⟨i, hil, rfl, hbr, hall⟩ := hrel
    have HA := Lib.hid hall
    clear hall
    by_cases hlt : i < l.length
    · obtain ⟨x, hx⟩ : ∃ x, l[i]? = some x := ⟨_, List.getElem?_eq_getElem hlt⟩
      have d0 := (hsl.below hbr).2 i x hx
      have hbw := (hsl.below hbr).1
      have hhit := fun h => findG_hit hx h HA.out
      have hst : P x = false → ∀ (j : Nat) (y : Nat), j < i + 1 → l[j]? = some y → P y = false := fun h j y hj hy => by
        by_cases hji : j = i
        · subst hji; rw [hx] at hy; cases hy; exact h
        · exact HA.out j y (by omega) hy
      have HHIT := Lib.hid hhit
      have HST := Lib.hid hst
      have cF := Lib.hid (hF.out wr x (List.mem_of_getElem? hx) hbr)
      skip
      have hiI : (i : Int) < (l.length : Int) := by omega
      clear hhit hst hx HA hF
      generalize P _ = r at *
      go_wp2_with fail
      refine cF.out.mono ?_
      rintro e w2 ⟨rfl, hb2⟩
      have hbr2 := Bt hbr hb2
      cases r
      · have HX := Lib.hid (HST.out rfl)
        go_wp2_with fail
        go_roundw
        case rel => exact ⟨i + 1, by omega, by go_num, hbr2, HX.out⟩
        case measure => simp [intOf]; omega
      · have HX := Lib.hid (HHIT.out rfl)
        go_wp2_with fail
        go_ret
        exact ⟨ret_i64 HX.out.symm, hbr2⟩
    · obtain rfl : i = l.length := by omega
      have hn : findG P l = -1 := findG_none fun j y hy => HA.out j y (List.getElem?_eq_some_iff.1 hy).1 hy
      have HN := Lib.hid hn
      clear hn
      go_wp2_with fail
      go_ret
      exact ⟨ret_i64 HN.out.symm, hbr⟩
/-- A test that a closure makes of a list's elements, in whatever world lies behind w. -/
def TestVar (w : World) (f : FuncId) (caps : Array Value) (P : ByteArray × Value → Bool) (l : List (ByteArray × Value)) : Prop := ∀ (W : World) (x : ByteArray × Value), x ∈ l → Below w.heap.size w W → Calls Tryd.prog f (#[.agg #[.string x.1, x.2]] ++ caps) W fun e w' => e = .returned (.bool (P x)) ∧ Below W.heap.size W w'
set_option maxHeartbeats 1600000 in
set_option maxRecDepth 100000 in
theorem var_IndexFunc (a : Option Addr) (cap : Nat) (l : List (ByteArray × Value)) (f : FuncId) (caps : Array Value) (P : ByteArray × Value → Bool) (w : World) (hsl : VarSl w a l) (hl : l.length ≤ 16777216) (eg : ∀ args w, (callFunc f args).run Tryd.prog w = .ok (.enter f args) w) (hf : TestVar w f caps P l) :
    Calls Tryd.prog 58 #[.slice a l.length cap, .func (.func f) #[] caps] w fun e w' => e = .returned (.int .i64 (findG P l)) ∧ Below w.heap.size w w' := by
  have hF := Lib.hid hf
  clear hf
  go_enter Tryd.func58, Tryd.ntmps58
  go_wp2_with fail
  go_loopw [8] (fun x wr => ∃ i : Nat, i ≤ l.length ∧ x = .int .i64 i ∧ Below w.heap.size w wr ∧ ∀ (j : Nat) (y : ByteArray × Value), j < i → l[j]? = some y → P y = false) (fun x _ => l.length - (intOf x).toNat)
  case atStart => exact ⟨0, Nat.zero_le _, rfl, Below.refl _ _, fun j y h => by omega⟩
  case round =>
    obtain ⟨i, hil, rfl, hbr, hall⟩ := hrel
    have HA := Lib.hid hall
    clear hall
    by_cases hlt : i < l.length
    · obtain ⟨x, hx⟩ : ∃ x, l[i]? = some x := ⟨_, List.getElem?_eq_getElem hlt⟩
      obtain ⟨b, off, rfl, hbw, d0, d1⟩ := (hsl.below hbr) i x hx
      have hhit := fun h => findG_hit hx h HA.out
      have hst : P x = false → ∀ (j : Nat) (y : ByteArray × Value), j < i + 1 → l[j]? = some y → P y = false := fun h j y hj hy => by
        by_cases hji : j = i
        · subst hji; rw [hx] at hy; cases hy; exact h
        · exact HA.out j y (by omega) hy
      have HHIT := Lib.hid hhit
      have HST := Lib.hid hst
      have cF := Lib.hid (hF.out wr x (List.mem_of_getElem? hx) hbr)
      obtain ⟨xn, xu⟩ := x
      simp only at d0 d1
      have hiI : (i : Int) < (l.length : Int) := by omega
      clear hhit hst hx HA hF
      generalize P _ = r at *
      go_wp2_with fail
      refine cF.out.mono ?_
      rintro e w2 ⟨rfl, hb2⟩
      have hbr2 := Bt hbr hb2
      cases r
      · have HX := Lib.hid (HST.out rfl)
        go_wp2_with fail
        go_roundw
        case rel => exact ⟨i + 1, by omega, by go_num, hbr2, HX.out⟩
        case measure => simp [intOf]; omega
      · have HX := Lib.hid (HHIT.out rfl)
        go_wp2_with fail
        go_ret
        exact ⟨ret_i64 HX.out.symm, hbr2⟩
    · obtain rfl : i = l.length := by omega
      have hn : findG P l = -1 := findG_none fun j y hy => HA.out j y (List.getElem?_eq_some_iff.1 hy).1 hy
      have HN := Lib.hid hn
      clear hn
      go_wp2_with fail
      go_ret
      exact ⟨ret_i64 HN.out.symm, hbr⟩
set_option maxHeartbeats 800000 in
theorem num_ContainsFunc (b off cap : Nat) (l : List Nat) (f : FuncId) (caps : Array Value) (P : Nat → Bool) (w : World) (hsl : NumAt w b off l) (hl : l.length ≤ 16777216) (eg : ∀ args w, (callFunc f args).run Tryd.prog w = .ok (.enter f args) w) (hf : TestNum w f caps P l) :
    Calls Tryd.prog 65 #[.slice (some ⟨b, off, none⟩) l.length cap, .func (.func f) #[] caps] w fun e w' => e = .returned (.bool (l.any P)) ∧ Below w.heap.size w w' := by
  have cI := Lib.hid (num_IndexFunc b off cap l f caps P w hsl hl eg hf)
  have hA : decide (0 ≤ findG P l) = l.any P := by
    unfold findG
    cases h : l.findIdx? P with
    | none =>
      have : l.any P = false := by
        rw [List.findIdx?_eq_none_iff] at h
        rw [List.any_eq_false]
        exact fun x hx => by simp [h x hx]
      rw [this]; rfl
    | some i =>
      obtain ⟨hi, h1, _⟩ := List.findIdx?_eq_some_iff_getElem.1 h
      have : l.any P = true := List.any_eq_true.2 ⟨_, List.getElem_mem hi, h1⟩
      rw [this]; simp
  have HA := Lib.hid hA
  clear hA
  generalize findG P l = i at *
  clear hf hsl eg
  go_enter Tryd.func65, Tryd.ntmps65
  go_wp2_with fail
  refine cI.out.mono ?_
  rintro e w2 ⟨rfl, hb2⟩
  go_wp2_with fail
  go_ret
  exact ⟨ret_bool HA.out, hb2⟩
end Go.Proofs.YtipenfeplampeaaDoor
