/- subst's matcher: advance: one character's step. -/
import Derived.Test.YtipenfeplampeaaDoorSubstPlainM11
import Derived.Test.YtipenfeplampeaaDoorSubstPlainM10
import Derived.Test.YtipenfeplampeaaDoorSubstPlainM9

namespace Go.Proofs.YtipenfeplampeaaDoor
open Go.RowKit

theorem cell_grown {w w' : World} {g : Nat} (h : w.grownBy w' (some g)) {p : Addr} (hp : p.block < w.heap.size) (hne : p.block ≠ g) : w'.cell? p = w.cell? p :=
  World.cell?_of_block (h.block p.block hp (fun e => hne (by injection e)))
theorem pset_many {w : World} {g n i : Nat} {t : TypeId} {f : Bool} {ps : List GPart} {cs : List Nat} {fr : Nat → Bool} {k c j : Nat} (h : w.rowIs g t n (fun m => if m = j then .bool true else boolsF (nP f ps cs fr k c i) m)) (e : ∀ m, nP f ps cs fr k c (i + 1) m = if m = j then true else nP f ps cs fr k c i m) :
    w.rowIs g t n (boolsF (nP f ps cs fr k c (i + 1))) := h.congr fun m _ => by
  show _ = Value.bool _
  rw [e]
  by_cases hm : m = j
  · rw [if_pos hm, if_pos hm]
  · rw [if_neg hm, if_neg hm]; rfl
set_option maxHeartbeats 6400000 in
set_option maxRecDepth 100000 in
theorem sub_advance (g : Nat) (a : Option Addr) (n cap gr c2 c k : Nat) (xs cs : List Nat) (fr : Nat → Bool) (fold : Bool) (w : World) (hn : xs.length = n) (hn2 : n ≤ 16777216) (hg : g < w.heap.size) (hf : w.cell? ⟨g, 2, none⟩ = some (.bool fold)) (hcl : CharsSl w a xs)
    (hrow : w.rowIs gr 4 (n + 1) (boolsF (nS fold (xs.map partOf) cs fr k))) (hxs : ∀ x ∈ xs, x ≤ 1114111) :
    Calls Tryd.prog 64 #[.pointer (some ⟨g, 0, none⟩), .slice a n cap, .slice (some ⟨gr, 0, none⟩) (n + 1) c2, .int .i64 (c : Int)] w fun e w' => ∃ gn, e = .returned (.slice (some ⟨gn, 0, none⟩) (n + 1) (n + 1)) ∧ w'.rowIs gn 4 (n + 1) (boolsF (nP fold (xs.map partOf) cs fr k c n)) ∧ w.heap.size ≤ gn ∧ Below w.heap.size w w' := by
  have hmk := make_bools n hn2
  have HN := Lib.hid hn
  have HX := Lib.hid hxs
  have hgr := hrow.lt
  have hgc := hcl.ne (f := nS fold (xs.map partOf) cs fr k) hrow
  have hrn := World.rowIs_made w (.bool false) (n + 1) 4
  have hra := hrow.alloc (.cells (madeCells #[.bool false] (n + 1)) 4)
  have hst : Below w.heap.size w (w.alloc (.cells (madeCells #[.bool false] (n + 1)) 4)) := (Below.refl _ _).alloc (Nat.le_refl _) _
  have hcl2 := hcl.below hst
  have hf2 := (hst.cell (p := ⟨g, 2, none⟩) hg).trans hf
  clear hn hxs hgc
  go_enter Tryd.func64, Tryd.ntmps64
  go_wp2_with fail
  generalize hw3 : w.alloc (.cells (madeCells #[.bool false] (n + 1)) 4) = w3 at *
  have hb3 : Below w.heap.size w w3 := hst
  generalize hgn : w.heap.size = gn at *
  have hgg : gr ≠ gn := by omega
  have hgg2 : g ≠ gn := by omega
  have hsz3 : gn < w3.heap.size := hrn.lt
  have hne3 := hcl2.ne (f := fun _ => false) hrn
  clear hw3 hst hmk hf hcl hrow
  go_loopw [17] (fun x wi => ∃ i : Nat, i ≤ n ∧ x = .int .i64 i ∧ wi.rowIs gn 4 (n + 1) (boolsF (nP fold (xs.map partOf) cs fr k c i)) ∧ w3.grownBy wi (some gn)) (fun x _ => n - (intOf x).toNat)
  case atStart => exact ⟨0, Nat.zero_le _, rfl, hrn.congr fun j _ => by
    show _ = Value.bool _
    rw [nP_zero], grown_refl _ _⟩
  case round =>
    obtain ⟨i, hin, rfl, hri, hgi⟩ := hrel
    have hgi2 := hgi.size
    by_cases hlti : i < n
    · obtain ⟨x, hx⟩ : ∃ x, xs[i]? = some x := ⟨_, List.getElem?_eq_getElem (by rw [HN.out]; exact hlti)⟩
      have hxm := HX.out x (List.mem_of_getElem? hx)
      have hp : (xs.map partOf)[i]? = some (partOf x) := by rw [List.getElem?_map, hx]; rfl
      obtain ⟨b0, rfl, hb0, h1⟩ := (hcl2.grown hgi hne3) i x hx
      have hrg := rowIs_far hra hgi (by simp; exact hgg)
      have hfi := (cell_grown hgi (p := ⟨g, 2, none⟩) (by show g < _; omega) hgg2).trans hf2
      have cg := hrg.cell (i := i) (by omega)
      have hglt := hrg.lt
      have hgnlt := hri.lt
      have e0 : boolsF (nS fold (xs.map partOf) cs fr k) i = .bool (nS fold (xs.map partOf) cs fr k i) := rfl
      rw [e0] at cg
      have hno := fun h => nP_none (f := fold) (cs := cs) (fr := fr) (i := k) (c := c) hp h
      have hmany := fun h1 h2 h3 => nP_many (f := fold) (cs := cs) (fr := fr) (i := k) (c := c) hp h1 h2 h3
      have hone := fun h1 h2 h3 => nP_one (f := fold) (cs := cs) (fr := fr) (i := k) (c := c) hp h1 h2 h3
      have HNO := Lib.hid hno
      have HMANY := Lib.hid hmany
      have HONE := Lib.hid hone
      have hset := fun j => hri.set j (.bool true)
      have hgs := fun j => only_setCell hgi (p := ⟨gn, j, none⟩) (.inl rfl) (.bool true)
      have hci := hri.cell (i := i) (by omega)
      have hcj := hri.cell (i := i + 1) (by omega)
      have hfz1 := hri.frozen i
      have hfz2 := hri.frozen (i + 1)
      have HSET := Lib.hid hset
      have HGS := Lib.hid hgs
      have HRI := Lib.hid hri
      have HGI := Lib.hid hgi
      clear hno hmany hone hp e0 hset hgs hx hrg hri hgi
      by_cases hy : nS fold (xs.map partOf) cs fr k i = true
      · have HY := Lib.hid hy
        rw [hy] at cg
        clear hy
        by_cases h42 : x = 42
        · subst h42
          go_wp2_with fail
          go_roundw
          case rel => exact ⟨i + 1, by omega, by go_num, pset_many (HSET.out i) (HMANY.out HY.out rfl rfl), HGS.out i⟩
          case measure => simp [intOf]; omega
        · have e42 : ((x : Int) == 42) = false := by rw [beq_eq_false_iff_ne]; omega
          have hal := Lib.hid (alike_stands c fold h42)
          have hmn := Lib.hid (show (partOf x).many = false by rw [many_star, decide_eq_false h42])
          clear h42
          go_wp2_with fail
          refine (sub_alike g x c fold _ hxm hfi).mono ?_
          rintro e w5 ⟨rfl, rfl⟩
          cases hst : alikeB fold x c
          · have HST := Lib.hid (hal.out.trans hst)
            clear hst
            go_wp2_with fail
            go_roundw
            case rel => exact ⟨i + 1, by omega, by go_num, HRI.out.congr fun j _ => by
              show Value.bool _ = Value.bool _
              rw [HNO.out (.inr HST.out)], HGI.out⟩
            case measure => simp [intOf]; omega
          · have HST := Lib.hid (hal.out.trans hst)
            clear hst
            go_wp2_with fail
            go_roundw
            case rel => exact ⟨i + 1, by omega, by go_num, pset_many (HSET.out (i + 1)) (HONE.out HY.out HST.out hmn.out), HGS.out (i + 1)⟩
            case measure => simp [intOf]; omega
      · have hy : nS fold (xs.map partOf) cs fr k i = false := by simpa using hy
        have HY := Lib.hid hy
        rw [hy] at cg
        clear hy
        go_wp2_with fail
        go_roundw
        case rel => exact ⟨i + 1, by omega, by go_num, HRI.out.congr fun j _ => by
          show Value.bool _ = Value.bool _
          rw [HNO.out (.inl HY.out)], HGI.out⟩
        case measure => simp [intOf]; omega
    · obtain rfl : i = n := by omega
      go_wp2_with fail
      go_ret
      exact ⟨gn, rfl, hri, by omega, by rw [hgn]; exact hb3.grown hgi (by omega) (fun j hj => by cases hj; omega)⟩
end Go.Proofs.YtipenfeplampeaaDoor

/- glob.plain: the parts of a pattern. -/
namespace Go.Proofs.YtipenfeplampeaaDoor
open Go.RowKit

theorem patP_len (p : ByteArray) : (patP p).length ≤ p.size := by unfold patP; rw [List.length_map]; exact chrs_len p
theorem okP_none {p : ByteArray} (h : okP p = true) : (chrs p).2 = none ∧ p.size ≤ 1024 := by
  unfold okP at h
  rw [Bool.and_eq_true, decide_eq_true_iff, Option.isNone_iff_eq_none] at h
  exact ⟨h.2, h.1⟩
def PlainPost (p : ByteArray) (w : World) (e : Ending) (w' : World) : Prop :=
  Below w.heap.size w w' ∧ ((okP p = true ∧ ∃ v, e = .returned (.tuple #[v, .nilIface]) ∧ OwnP w' w.heap.size v (patP p)) ∨ (okP p = false ∧ ∃ u, e = .returned (.tuple #[.slice none 0 0, .iface 54 u])))

theorem map_take_one {cs : List Nat} {i c : Nat} (h : cs[i]? = some c) : (cs.take i).map partOf ++ [partOf c] = (cs.take (i + 1)).map partOf := by
  obtain ⟨hi, rfl⟩ := List.getElem?_eq_some_iff.1 h
  rw [List.take_succ_eq_append_getElem hi, List.map_append]; rfl

set_option maxHeartbeats 1600000 in
set_option maxRecDepth 100000 in
theorem glob_plain (p : ByteArray) (w : World) (hU : Utf8Laid w) (hp : p.size ≤ 16777216) : Calls Tryd.prog 47 #[.string p] w (PlainPost p w) := by
  go_enter Tryd.func47, Tryd.ntmps47
  go_wp2_with fail
  refine (glob_Check p _ hU hp).mono ?_
  rintro e w1 ⟨hb1, h⟩
  rcases h with ⟨hok, _, rfl⟩ | ⟨hok, _, v, rfl, hv⟩
  · have HOK := Lib.hid hok
    have HN := Lib.hid (okP_none hok).1
    clear hok
    have hU1 := hU.below hb1
    go_wp2_with ((with_reducible refine wpList_bytes_sl rfl 9 45 5 _ rfl p rfl Tryd.underlying9 Tryd.underlying45 Tryd.underlying5 (by omega) ?_); intro v1 w2 hv1 hb2)
    have hb12 := Bt hb1 hb2
    have hU2 := hU1.below hb2
    refine (utf_Chars v1 p _ hU2 hp hv1).mono ?_
    rintro e w3 ⟨hb3, h⟩
    have hb13 := Bt hb12 hb3
    rcases h with ⟨_, v3, rfl, hown⟩ | ⟨i, hi, _⟩
    · obtain ⟨a, c, rfl, hc1, hc2, hsl⟩ := chars_sl hown rfl
      have hlen := chrs_len p
      have hpat : patP p = (chrs p).1.map partOf := rfl
      have hpl := patP_len p
      rw [hpat] at hpl
      generalize (chrs p).1 = cs at *
      have HPAT := Lib.hid hpat
      unfold maxLen at hc2
      clear hown hb1 hb2 hb3 hb12 hU1 hU2 hpat
      go_wp2_with fail
      go_loopw [7, 23] (fun v x wr => ∃ i : Nat, i ≤ cs.length ∧ x = .int .i64 i ∧ OwnP wr w3.heap.size v ((cs.take i).map partOf) ∧ Below w3.heap.size w3 wr) (fun _ x _ => cs.length - (intOf x).toNat)
      case atStart => exact ⟨0, Nat.zero_le _, rfl, OwnP.nil _ _, Below.refl _ _⟩
      case round =>
        obtain ⟨i, hil, rfl, hown, hbr⟩ := hrel
        by_cases hlt : i < cs.length
        · obtain ⟨d, hd⟩ : ∃ d, cs[i]? = some d := ⟨_, List.getElem?_eq_getElem hlt⟩
          obtain ⟨b, rfl, hbw, hcell⟩ := (hsl.below hbr) i d hd
          have hmt := map_take_one hd
          have hdl : ((cs.take i).map partOf).length ≤ 16777216 := by rw [List.length_map]; have := List.length_take_le i cs; omega
          have hbs := (Bt hb13 hbr).size
          generalize (cs.take i).map partOf = done at *
          have hws := hbr.size
          by_cases h42 : d = 42
          · subst h42
            have HMT := Lib.hid hmt
            clear hmt hd
            have ho2 := hown.below ((Below.refl wr.heap.size wr).alloc (Nat.le_refl _) (.cells #[.int .i64 0, .bool true, .bool true] 135))
            have hbr2 := hbr.alloc hbr.size (.cells #[.int .i64 0, .bool true, .bool true] 135)
            go_wp2_with (at_builtin; refine wpList_app_part rfl (.tmp 35) (.tmp 37) rfl w3.heap.size _ _ rfl ho2 wr.heap.size 1 ⟨0, true, true⟩ rfl (heap_alloc_new wr _) (by omega) (by simp; omega) ?_)
            intro v4 w4 hown4 hg4
            have hbr4 := ho2.under hbr2 (Nat.le_refl _) hg4
            clear ho2 hbr2 hown hbr hg4
            go_wp2_with fail
            go_roundw
            case rel => exact ⟨i + 1, by omega, by go_num, by rw [← HMT.out]; exact hown4, hbr4⟩
            case measure => simp [intOf]; omega
          · have e1 : ((d : Int) == 42) = false := by rw [beq_eq_false_iff_ne]; omega
            by_cases h63 : d = 63
            · subst h63
              have HMT := Lib.hid hmt
              clear hmt hd h42
              have ho2 := hown.below ((Below.refl wr.heap.size wr).alloc (Nat.le_refl _) (.cells #[.int .i64 0, .bool true, .bool false] 135))
              have hbr2 := hbr.alloc hbr.size (.cells #[.int .i64 0, .bool true, .bool false] 135)
              go_wp2_with (at_builtin; refine wpList_app_part rfl (.tmp 41) (.tmp 43) rfl w3.heap.size _ _ rfl ho2 wr.heap.size 1 ⟨0, true, false⟩ rfl (heap_alloc_new wr _) (by omega) (by simp; omega) ?_)
              intro v4 w4 hown4 hg4
              have hbr4 := ho2.under hbr2 (Nat.le_refl _) hg4
              clear ho2 hbr2 hown hbr hg4
              go_wp2_with fail
              go_roundw
              case rel => exact ⟨i + 1, by omega, by go_num, by rw [← HMT.out]; exact hown4, hbr4⟩
              case measure => simp [intOf]; omega
            · have e2 : ((d : Int) == 63) = false := by rw [beq_eq_false_iff_ne]; omega
              rw [partOf_char h42 h63] at hmt
              have HMT := Lib.hid hmt
              clear hmt hd h42 h63
              have ho2 := hown.below ((Below.refl wr.heap.size wr).alloc (Nat.le_refl _) (.cells #[.int .i64 (d : Int), .bool false, .bool false] 135))
              have hbr2 := hbr.alloc hbr.size (.cells #[.int .i64 (d : Int), .bool false, .bool false] 135)
              go_wp2_with (at_builtin; refine wpList_app_part rfl (.tmp 28) (.tmp 31) rfl w3.heap.size _ _ rfl ho2 wr.heap.size 1 ⟨d, false, false⟩ rfl (heap_alloc_new wr _) (by omega) (by simp; omega) ?_)
              intro v4 w4 hown4 hg4
              have hbr4 := ho2.under hbr2 (Nat.le_refl _) hg4
              clear ho2 hbr2 hown hbr hg4
              go_wp2_with fail
              go_roundw
              case rel => exact ⟨i + 1, by omega, by go_num, by rw [← HMT.out]; exact hown4, hbr4⟩
              case measure => simp [intOf]; omega
        · obtain rfl : i = cs.length := by omega
          rw [List.take_length, ← HPAT.out] at hown
          have hb4 := Bt hb13 hbr
          have hown5 := ownsRow_base hown hb13.size
          clear hown
          go_wp2_with fail
          go_ret2
          exact ⟨hb4, .inl ⟨HOK.out, _, rfl, hown5⟩⟩
    · rw [HN.out] at hi; cases hi
  · obtain ⟨u, rfl⟩ := hv.ne_nil
    have HOK := Lib.hid hok
    clear hok
    go_wp2_with fail
    go_ret2
    exact ⟨hb1, .inr ⟨HOK.out, u, rfl⟩⟩
end Go.Proofs.YtipenfeplampeaaDoor
