/- A kind's text in great letters, with blanks between its parts: plain facts. -/
import Derived.Test.YtndppcklpcfikaaGreatDoorMediaCasesM8
import Derived.Test.YtndppcklpcfikaaGreatDoorMediaCasesM19
import Derived.Test.YtndppcklpcfikaaGreatDoorMediaCasesM7
import Derived.Test.YtndppcklpcfikaaGreatDoorMediaCasesM5
import Derived.Deep.RegionLaw
import Derived.Deep.DeepCutAuto

namespace Go.Proofs.YtndppcklpcfikaaGreatDoor
open Go.RowKit

/-- The blanks. -/
def padM : ByteArray := ⟨#[32, 9, 32, 9, 32, 9, 32, 9]⟩
/-- A text in great letters with blanks P between the parts, with the first parameters. -/
def txC (P : List UInt8) (a b : ByteArray) (l : List It) (i : Nat) : List UInt8 := wholeT P P P upL ⟨a, b, l.take i⟩
def oneC (P : List UInt8) (x : It) : List UInt8 := P ++ 59 :: (P ++ (upL x.name ++ 61 :: (valT x.value ++ P)))
theorem txC_zero (P : List UInt8) (a b : ByteArray) (l : List It) : txC P a b l 0 = P ++ (upL a ++ 47 :: upL b) := by unfold txC wholeT bodyT; simp
theorem txC_all (P : List UInt8) (a b : ByteArray) (l : List It) : txC P a b l l.length = wholeT P P P upL ⟨a, b, l⟩ := by unfold txC; rw [List.take_of_length_le (Nat.le_refl _)]
theorem txC_step {P : List UInt8} {a b : ByteArray} {l : List It} {i : Nat} {x : It} (h : l[i]? = some x) : txC P a b l (i + 1) = txC P a b l i ++ oneC P x := by
  unfold txC wholeT bodyT oneC
  rw [List.take_add_one, h]
  simp
theorem upL_len (b : ByteArray) : (upL b).length = b.size := by unfold upL greatL; rw [List.length_map]; rfl
theorem upL_of (b : ByteArray) : ofL (upL b) = greatS b := rfl
theorem oneC_len {P : List UInt8} {x : It} (hP : P.length ≤ 8) (h : x.name.size ≤ 1000 ∧ x.value.size ≤ 1000) : (oneC P x).length ≤ 3100 := by
  have h1 := upL_len x.name
  have h2 := valT_len x.value
  unfold oneC
  simp only [List.length_append, List.length_cons]
  omega
theorem bodyC_len {P : List UInt8} (hP : P.length ≤ 8) : ∀ l : List It, (∀ x ∈ l, x.name.size ≤ 1000 ∧ x.value.size ≤ 1000) → (bodyT P P P upL l).length ≤ 3100 * l.length := by
  intro l
  induction l with
  | nil => intro _; simp [bodyT]
  | cons x l ih =>
    intro h
    have h1 := oneC_len hP (h x (.head _))
    have h2 := ih fun y hy => h y (.tail _ hy)
    have h3 : bodyT P P P upL (x :: l) = oneC P x ++ bodyT P P P upL l := rfl
    rw [h3, List.length_append, List.length_cons]
    omega
theorem txC_len {P : List UInt8} {a b : ByteArray} {l : List It} {i : Nat} (hP : P.length ≤ 8) (ha : a.size ≤ 1000) (hb : b.size ≤ 1000) (hl : l.length ≤ 30) (hz : ∀ x ∈ l, x.name.size ≤ 1000 ∧ x.value.size ≤ 1000) : (txC P a b l i).length ≤ 100000 := by
  have h1 := bodyC_len hP (l.take i) fun x hx => hz x (List.mem_of_mem_take hx)
  have h2 : (l.take i).length ≤ 30 := by rw [List.length_take]; omega
  have h3 := Nat.mul_le_mul_left 3100 h2
  have h4 := upL_len a
  have h5 := upL_len b
  unfold txC wholeT
  simp only [List.length_append, List.length_cons]
  omega
theorem pad_len (m : Nat) : (padM.data.toList.take m).length ≤ 8 := by
  rw [List.length_take]
  show min m 8 ≤ 8
  omega
theorem pad_all (m : Nat) : (padM.data.toList.take m).all isBlank = true := by
  rw [List.all_eq_true]
  intro x hx
  have h : ∀ x ∈ padM.data.toList, isBlank x = true := by decide
  exact h x (List.mem_of_mem_take hx)
theorem pad_ext (m : Nat) : padM.extract 0 m = ofL (padM.data.toList.take m) := by
  have := ofL_head padM.data.toList m
  rw [ofL_list] at this
  exact this
/-- The text of a kind with one parameter, from the mark behind its name on. -/
theorem one_text (v : ByteArray) : mtxt ⟨⟨#[97]⟩, ⟨#[98]⟩, [⟨⟨#[110]⟩, v, true⟩]⟩ = [97, 47, 98, 59, 32, 110] ++ 61 :: valT v := by
  show [] ++ ([97] ++ 47 :: ([98] ++ (([] ++ 59 :: ([32] ++ ([110] ++ 61 :: (valT v ++ [])))) ++ []))) = _
  simp
theorem one_cut (v : ByteArray) : (ofL (mtxt ⟨⟨#[97]⟩, ⟨#[98]⟩, [⟨⟨#[110]⟩, v, true⟩]⟩)).extract 6 (ofL (mtxt ⟨⟨#[97]⟩, ⟨#[98]⟩, [⟨⟨#[110]⟩, v, true⟩]⟩)).size = ofL (61 :: valT v) := by
  rw [ofL_tail, one_text]
  rfl
end Go.Proofs.YtndppcklpcfikaaGreatDoor

/- waybilllaw17.upper: a text in great letters. -/
namespace Go.Proofs.YtndppcklpcfikaaGreatDoor
open Go.RowKit

set_option maxHeartbeats 1600000 in
set_option maxRecDepth 100000 in
theorem law17_upper (s : ByteArray) (w : World) (hs : s.size ≤ 16777216) : Calls Tryz.prog 15 #[.string s] w fun e w' => e = .returned (.string (greatS s)) ∧ Below w.heap.size w w' := by
  go_enter Tryz.func15, Tryz.ntmps15
  go_wp2_with ((with_reducible refine wpList_bytes (o := ⟨some 7, _, _, _, _, _⟩) rfl 9 58 5 _ rfl s rfl Tryz.underlying9 Tryz.underlying58 Tryz.underlying5 ?_); intro cap w1 hcap hB hb1 hsz1)
  go_loopw [10] (fun a wr => ∃ i : Nat, i ≤ s.size ∧ a = .int .i64 i ∧ BytesAt wr w.heap.size (greatTo s i) ∧ Below w.heap.size w wr) (fun a _ => s.size - (intOf a).toNat)
  case atStart => exact ⟨0, Nat.zero_le _, rfl, by rw [greatTo_zero]; exact hB, hb1⟩
  case round =>
    obtain ⟨i, hil, rfl, hBr, hbr⟩ := hrel
    by_cases hlt : i < s.size
    · have hc := hBr.cell (k := i) (by rw [greatTo_len]; exact hlt)
      have hfz := hBr.frozen (k := i) (by rw [greatTo_len]; exact hlt)
      rw [greatTo_at hlt] at hc
      have hst := fun b => hBr.store (k := i) (by rw [greatTo_len]; exact hlt) b
      have hset := greatTo_set hlt
      have hkeep := greatTo_keep hlt
      have hnat := greatB_nat (byteAt s i)
      have hdef : greatB (byteAt s i) = if 97 ≤ (byteAt s i).toNat ∧ (byteAt s i).toNat ≤ 122 then byteAt s i - 32 else byteAt s i := rfl
      have hb := (byteAt s i).toNat_lt
      generalize byteAt s i = c at *
      by_cases hc1 : 97 ≤ c.toNat
      · by_cases hc2 : c.toNat ≤ 122
        · have hv := hnat hc1 hc2
          have h2 := hst (greatB c)
          have hcast : (((greatB c).toNat : Nat) : Int) = (c.toNat : Int) - 32 := by rw [hv]; omega
          rw [hset, hcast] at h2
          have H2 := Lib.hid h2
          clear hst hset hkeep hnat hdef hv h2 hBr hcast
          go_wp2_with fail
          go_roundw
          case rel => exact ⟨i + 1, by omega, by go_num, H2.out, hbr.setCell (Nat.le_refl _) _⟩
          case measure => simp [intOf]; omega
        · have hk := hkeep (by rw [hdef, if_neg (by omega)])
          have h2 : BytesAt wr w.heap.size (greatTo s (i + 1)) := by rw [hk]; exact hBr
          have H2 := Lib.hid h2
          clear hst hset hkeep hnat hdef hk h2 hBr
          go_wp2_with fail
          go_roundw
          case rel => exact ⟨i + 1, by omega, by go_num, H2.out, hbr⟩
          case measure => simp [intOf]; omega
      · have hk := hkeep (by rw [hdef, if_neg (by omega)])
        have h2 : BytesAt wr w.heap.size (greatTo s (i + 1)) := by rw [hk]; exact hBr
        have H2 := Lib.hid h2
        clear hst hset hkeep hnat hdef hk h2 hBr
        go_wp2_with fail
        go_roundw
        case rel => exact ⟨i + 1, by omega, by go_num, H2.out, hbr⟩
        case measure => simp [intOf]; omega
    · obtain rfl : i = s.size := by omega
      have hcv := run_back wr 58 9 5 w.heap.size cap _ Tryz.underlying58 Tryz.underlying5 Tryz.underlying9 hBr
      rw [greatTo_len, greatTo_all] at hcv
      clear hBr
      have hcv2 : (convert 58 9 (.slice (some ⟨w.heap.size, 0, none⟩) s.size cap)).run Tryz.prog wr = .ok (.string (greatS s)) wr := hcv
      clear hcv
      go_wp2_with fail
      go_ret
      exact ⟨rfl, hbr⟩
end Go.Proofs.YtndppcklpcfikaaGreatDoor

/- The walk of MediaCases. -/
namespace Go.Proofs.YtndppcklpcfikaaGreatDoor
open Go.RowKit

theorem mcases_long (s : ByteArray) (n : Int) (w : World) (h : 400 < s.size) : Calls Tryz.prog 4 #[.string s, .int .u8 n] w fun e w' => e = .returned (.bool true) ∧ Below w.heap.size w w' := by
  have e1 : (s.size : Int) > 400 := by omega
  go_enter Tryz.func4, Tryz.ntmps4
  go_wp2_with fail
  refine (speaks17 _).mono ?_
  rintro e w1 ⟨rfl, hb1⟩
  go_wp2_with fail
  go_ret
  exact ⟨rfl, hb1⟩
theorem mcases_err (s : ByteArray) (n : Int) (k i : Nat) (w : World) (hs : s.size ≤ 400) (hp : parseM s = .error (k, i)) : Calls Tryz.prog 4 #[.string s, .int .u8 n] w fun e w' => e = .returned (.bool true) ∧ Below w.heap.size w w' := by
  have e1 : ¬ (s.size : Int) > 400 := by omega
  have cP' : ∀ W, Calls Tryz.prog 14 #[.string s] W fun e w' => Below W.heap.size W w' ∧ ∃ v, e = .returned (.tuple #[.agg #[.string ⟨#[]⟩, .string ⟨#[]⟩, .slice none 0 0], v]) ∧ IsFault w' v (k : Int) (i : Int) := fun W =>
    (media_Parse s W).mono fun e w' ⟨hb, h⟩ => by
      refine ⟨hb, ?_⟩
      rcases h with ⟨m, h, _⟩ | ⟨k', i', h, v, he, hv⟩
      · rw [hp] at h; cases h
      · rw [hp] at h; cases h; exact ⟨v, he, hv⟩
  have cP := Lib.hid cP'
  clear cP' hp
  go_enter Tryz.func4, Tryz.ntmps4
  go_wp2_with fail
  refine (speaks17 _).mono ?_
  rintro e w1 ⟨rfl, hb1⟩
  go_wp2_with fail
  refine (cP.out _).mono ?_
  rintro e w2 ⟨hb2, v, rfl, hv⟩
  have hb12 := Bt hb1 hb2
  have hst := (Below.refl w2.heap.size w2).alloc (Nat.le_refl _) (.cells #[.string ⟨#[]⟩, .string ⟨#[]⟩, .slice none 0 0] 24)
  have hb13 := Bt hb12 hst
  obtain ⟨q, rfl⟩ := hv.ne_nil
  clear hb1 hb2 hb12 hst hv
  go_wp2_with fail
  go_ret
  exact ⟨rfl, hb13⟩
set_option maxHeartbeats 6400000 in
set_option maxRecDepth 100000 in
theorem mcases_ok (s : ByteArray) (n : Nat) (m : Md) (w : World) (hs : s.size ≤ 400) (hn : n < 256) (hp : parseM s = .ok m) : Calls Tryz.prog 4 #[.string s, .int .u8 (n : Int)] w fun e w' => e = .returned (.bool true) ∧ Below w.heap.size w w' := by
  have e1 : ¬ (s.size : Int) > 400 := by omega
  obtain ⟨f1, f2, f3, f4⟩ := parseM_fit hp
  have h7 := and7 n hn
  have hm8 : n % 8 < 8 := by omega
  generalize n % 8 = k at *
  have hPl := pad_len k
  have hPx := pad_ext k
  have hPz := ofL_size (padM.data.toList.take k)
  have hback := fun h => cases_back hp (pad_all k) h
  generalize padM.data.toList.take k = P at *
  have cP' : ∀ t, parseM t = .ok m → ∀ W, Calls Tryz.prog 14 #[.string t] W fun e w' => Below W.heap.size W w' ∧ ∃ pa c, e = .returned (.tuple #[.agg #[.string m.type, .string m.sub, .slice pa m.params.length c], .nilIface]) ∧ ItemsSl w' pa m.params := fun t ht W =>
    (media_Parse t W).mono fun e w' ⟨hb, h⟩ => by
      refine ⟨hb, ?_⟩
      rcases h with ⟨m', h, pa, c, he, _, _, hv⟩ | ⟨k', i', h, _⟩
      · rw [ht] at h; cases h; exact ⟨pa, c, he, hv.items⟩
      · rw [ht] at h; cases h
  have cP := Lib.hid (fun W => cP' s hp W)
  have cB := Lib.hid (fun h W => cP' _ (hback h) W)
  clear cP' hp hback
  obtain ⟨a, b, l⟩ := m
  simp only at f1 f2 f3 f4 cP cB
  have cX := Lib.hid (fun pa c W (h : ItemsSl W pa l) => media_Text a b pa c l W h f1 f2 f3 f4)
  have cS := Lib.hid (fun p1 c1 p2 c2 W (h1 : ItemsSl W p1 l) (h2 : ItemsSl W p2 l) => ref17_Same a b p1 c1 p2 c2 l W h1 h2 (by omega))
  have hALL := txC_all P a b l
  rw [← hALL] at cB
  have HLEN := Lib.hid (fun i => txC_len (i := i) hPl f2 f3 f1 f4)
  have F4 := Lib.hid f4
  clear f4 hALL
  generalize hTx : mtxt ⟨a, b, l⟩ = TX at *
  generalize ofL TX = T0 at *
  have H7 := Lib.hid h7
  have HPX := Lib.hid hPx
  clear h7 hPx hTx
  go_enter Tryz.func4, Tryz.ntmps4
  go_wp2_with fail
  refine (speaks17 _).mono ?_
  rintro e w1 ⟨rfl, hb1⟩
  go_wp2_with fail
  refine (cP.out _).mono ?_
  rintro e w2 ⟨hb2, pa, pc, rfl, hi2⟩
  have hb12 := Bt hb1 hb2
  have hm3 := MediaAt.new (w := w2) (n := a) (v := b) (pa := pa) (l := l.length) (c := pc)
  have hst := (Below.refl w2.heap.size w2).alloc (Nat.le_refl _) (.cells #[.string a, .string b, .slice pa l.length pc] 24)
  have hb13 := Bt hb12 hst
  have hi3 := hi2.below hst
  have L3 := hm3.load
  obtain ⟨x0, x1, x2⟩ := hm3.cells
  have CX := Lib.hid (cX.out pa pc _ hi3)
  clear hb1 hb2 hb12 hst hi2 cX
  go_wp2_with fail
  refine CX.out.mono ?_
  rintro e w4 ⟨rfl, hb4⟩
  have hb14 := Bt hb13 hb4
  have hm4 := hm3.below hb4
  have hi4 := hi3.below hb4
  generalize w2.heap.size = M at *
  clear x0 x1 x2 L3 CX hm3 hi3 hb13 hb4
  by_cases hT0 : 400 < T0.size
  · have hTI : (T0.size : Int) > 400 := by omega
    go_wp2_with fail
    go_ret
    exact ⟨rfl, hb14⟩
  have hTI : ¬ (T0.size : Int) > 400 := by omega
  obtain ⟨x0, x1, x2⟩ := hm4.cells
  have h7 := H7.out
  have hk8 : (k : Int) ≤ 8 := by omega
  have hk0 : (0 : Int) ≤ (k : Int) := by omega
  have hpx : (⟨#[32, 9, 32, 9, 32, 9, 32, 9]⟩ : ByteArray).extract 0 k = ofL P := HPX.out
  have hPB : (ofL P).size ≤ 8 := by omega
  have hga : (greatS a).size ≤ 1000 := by rw [greatS_size]; exact f2
  have hgb : (greatS b).size ≤ 1000 := by rw [greatS_size]; exact f3
  have cU := Lib.hid (fun (t : ByteArray) (h : t.size ≤ 16777216) W => law17_upper t W h)
  have hT1 : ofL (txC P a b l 0) = ofL P ++ greatS a ++ (⟨#[47]⟩ : ByteArray) ++ greatS b := by
    rw [txC_zero, ← upL_of a, ← upL_of b]
    show _ = ofL P ++ ofL (upL a) ++ ofL [47] ++ ofL (upL b)
    rw [ofL_app, ofL_app, ofL_app]
    simp
  have HT1 := Lib.hid hT1
  generalize hPBd : ofL P = PB at *
  have cUa := Lib.hid (fun W => cU.out a (by omega) W)
  have cUb := Lib.hid (fun W => cU.out b (by omega) W)
  clear hT1 hT0 hPz
  generalize greatS a = GA at *
  generalize greatS b = GB at *
  have n1 : ¬ 9223372036854775807 < PB.size + GA.size := by omega
  have n2 : ¬ 9223372036854775807 < PB.size + GA.size + 1 := by omega
  have n3 : ¬ 9223372036854775807 < PB.size + GA.size + 1 + GB.size := by omega
  have hS : ∀ W, Below w4.heap.size w4 W → W.cell? ⟨M, 0, none⟩ = some (.string a) ∧ W.cell? ⟨M, 1, none⟩ = some (.string b) ∧ Below w4.heap.size w4 W := fun W hb => ⟨(hm4.below hb).cells.1, (hm4.below hb).cells.2.1, hb⟩
  have HS := Lib.hid hS
  have hd := (Below.refl w4.heap.size w4).drew
  clear hS
  go_upto_region 9 with (fail)
  go_cut [8] (fun t wx => t = .string (ofL (txC P a b l 0)) ∧ Below w4.heap.size w4 wx)
  case first =>
    clear cB cS HLEN F4 H7 HPX hpx hPBd hi4 cP cU h7 hk8 hk0 e1 hTI hm8 hPl f1 f2 f3 hn hs
    have y0 : w4.drew.cell? ⟨M, 0, none⟩ = some (.string a) := x0
    have y1 : w4.drew.cell? ⟨M, 1, none⟩ = some (.string b) := x1
    clear x0 x1 x2 hm4 hb14
    go_region_law (go_simp; go_at_call 15; (first | with_reducible refine (cUa.out _).mono ?_ | with_reducible refine (cUb.out _).mono ?_); rintro e w6 ⟨rfl, hk6⟩; (have hk7 : Below w4.heap.size w4 w6 := Bt (by assumption) hk6); obtain ⟨g0, g1, _⟩ := HS.out _ hk7; dsimp only)
    all_goals (go_wp2_with fail; go_meet; exact ⟨by rw [HT1.out], by assumption⟩)
  case rest =>
    obtain ⟨rfl, hbx⟩ := hcut
    obtain ⟨w5, hw5⟩ : ∃ x, x = wc := ⟨_, rfl⟩
    subst hw5
    have hm5 := hm4.below hbx
    have hi5 := hi4.below hbx
    have hb15 := Bt hb14 hbx
    obtain ⟨x0, x1, x2⟩ := hm5.cells
    have HI5 := Lib.hid hi5
    clear hm4 hi4 hb14 hbx n1 n2 n3 HS hd HT1 cUa cUb h7 hpx hk8 hk0 cP
    go_wp2_with fail
    go_loopw [8, 48] (fun t x wr => ∃ i : Nat, i ≤ l.length ∧ x = .int .i64 i ∧ t = .string (ofL (txC P a b l i)) ∧ Below w.heap.size w wr ∧ Below w5.heap.size w5 wr) (fun _ x _ => l.length - (intOf x).toNat)
    case atStart => exact ⟨0, Nat.zero_le _, rfl, rfl, hb15, Below.refl _ _⟩
    case round =>
      obtain ⟨i, hil, rfl, rfl, hbr, hbr2⟩ := hrel
      by_cases hlt : i < l.length
      · obtain ⟨p, hx⟩ : ∃ p, l[i]? = some p := ⟨_, List.getElem?_eq_getElem hlt⟩
        obtain ⟨g, off, rfl, hg, d0, d1, d2⟩ := (HI5.out.below hbr2) i p hx
        obtain ⟨hz1, hz2⟩ := F4.out p (List.mem_of_getElem? hx)
        have hstep := txC_step (P := P) (a := a) (b := b) hx
        have hlen1 := HLEN.out i
        have hvl := valT_len p.value
        obtain ⟨pn, pv, ph⟩ := p
        dsimp only at hz1 hz2 hvl d0 d1 d2
        have hiI : (i : Int) < (l.length : Int) := by omega
        -- what the round lays
        obtain ⟨wC, hwC⟩ : ∃ W : World, W = ((wr.alloc (.cells #[.string pn, .string pv, .bool ph] 37)).alloc (.cells #[.string ⟨#[110]⟩, .string pv, .bool true] 37)).alloc (.cells #[.string ⟨#[97]⟩, .string ⟨#[98]⟩, .slice (some ⟨wr.heap.size + 1, 0, none⟩) 1 1] 24) := ⟨_, rfl⟩
        have hbC : Below wr.heap.size wr wC := by rw [hwC]; exact (((Below.refl _ _).alloc (Nat.le_refl _) _).alloc (by simp) _).alloc (by simp <;> omega) _
        have hNC : wr.heap.size < wC.heap.size := by rw [hwC]; simp; omega
        have q0 : wC.cell? ⟨wr.heap.size, 0, none⟩ = some (.string pn) := by
          rw [hwC, World.cell?_alloc_past _ _ _ (by simp; omega), World.cell?_alloc_past _ _ _ (by simp)]
          exact (ItemAt.new (w := wr) (n := pn) (v := pv) (b := ph)).cells.1
        have hmC : MediaAt wC (wr.heap.size + 2) ⟨#[97]⟩ ⟨#[98]⟩ (some ⟨wr.heap.size + 1, 0, none⟩) 1 1 := by
          rw [hwC]
          have := MediaAt.new (w := (wr.alloc (.cells #[.string pn, .string pv, .bool ph] 37)).alloc (.cells #[.string ⟨#[110]⟩, .string pv, .bool true] 37)) (n := ⟨#[97]⟩) (v := ⟨#[98]⟩) (pa := some ⟨wr.heap.size + 1, 0, none⟩) (l := 1) (c := 1)
          rw [World.size_alloc, World.size_alloc] at this
          exact this
        have hiC : ItemsSl wC (some ⟨wr.heap.size + 1, 0, none⟩) [⟨⟨#[110]⟩, pv, true⟩] := by
          intro j y hj
          match j, hj with
          | 0, hj =>
            simp at hj; subst hj
            have hn := ItemAt.new (w := wr.alloc (.cells #[.string pn, .string pv, .bool ph] 37)) (n := ⟨#[110]⟩) (v := pv) (b := true)
            rw [World.size_alloc] at hn
            obtain ⟨h0, h1, h2⟩ := hn.cells
            refine ⟨wr.heap.size + 1, 0, rfl, by rw [hwC]; simp <;> omega, ?_, ?_, ?_⟩
            · rw [hwC, World.cell?_alloc_past _ _ _ (by simp)]; exact h0
            · rw [hwC, World.cell?_alloc_past _ _ _ (by simp)]; exact h1
            · rw [hwC, World.cell?_alloc_past _ _ _ (by simp)]; exact h2
        have cX1' : ∀ W, Below wC.heap.size wC W → Calls Tryz.prog 10 #[.agg #[.string ⟨#[97]⟩, .string ⟨#[98]⟩, .slice (some ⟨wr.heap.size + 1, 0, none⟩) 1 1]] W fun e w' => e = .returned (.string (ofL (mtxt ⟨⟨#[97]⟩, ⟨#[98]⟩, [⟨⟨#[110]⟩, pv, true⟩]⟩))) ∧ Below W.heap.size W w' := fun W hb =>
          media_Text ⟨#[97]⟩ ⟨#[98]⟩ (some ⟨wr.heap.size + 1, 0, none⟩) 1 [⟨⟨#[110]⟩, pv, true⟩] W (hiC.below hb) (by simp) (by decide) (by decide) (fun x hx => by simp at hx; subst hx; exact ⟨by show 1 ≤ 1000; decide, hz2⟩)
        have cX1 := Lib.hid cX1'
        have cUn := Lib.hid (fun W => law17_upper pn W (by omega))
        have hcut1 := one_cut pv
        have h6 : (6 : Int) ≤ ((ofL (mtxt ⟨⟨#[97]⟩, ⟨#[98]⟩, [⟨⟨#[110]⟩, pv, true⟩]⟩)).size : Int) := by
          rw [ofL_size, one_text]; simp; omega
        have hS : ∀ W, Below wC.heap.size wC W → W.cell? ⟨wr.heap.size, 0, none⟩ = some (.string pn) ∧ MediaAt W (wr.heap.size + 2) ⟨#[97]⟩ ⟨#[98]⟩ (some ⟨wr.heap.size + 1, 0, none⟩) 1 1 := fun W hb => ⟨(hb.cell (p := ⟨wr.heap.size, 0, none⟩) hNC).trans q0, hmC.below hb⟩
        have HS := Lib.hid hS
        have hd := (Below.refl wC.heap.size wC).drew
        have hbrC := Bt hbr hbC
        have hbrC2 := hbr2.trans (hbC.mono hbr2.size)
        have hgn : (greatS pn).size ≤ 1000 := by rw [greatS_size]; exact hz1
        have hcz : (ofL (61 :: valT pv)).size ≤ 2100 := by rw [ofL_size, List.length_cons]; omega
        have hTz : (ofL (txC P a b l i)).size ≤ 100000 := by rw [ofL_size]; exact hlen1
        have hfin : ofL (txC P a b l (i + 1)) = ofL (txC P a b l i) ++ (PB ++ (⟨#[59]⟩ : ByteArray) ++ PB ++ greatS pn ++ ofL (61 :: valT pv) ++ PB) := by
          rw [hstep, ← ofL_app, ← hPBd, ← upL_of pn]
          congr 1
          show ofL (P ++ 59 :: (P ++ (upL pn ++ 61 :: (valT pv ++ P)))) = ofL P ++ ofL [59] ++ ofL P ++ ofL (upL pn) ++ ofL (61 :: valT pv) ++ ofL P
          rw [ofL_app, ofL_app, ofL_app, ofL_app, ofL_app]
          simp
        have HFIN := Lib.hid hfin
        clear hx hstep hfin x0 x1 x2 hlen1 hvl cX1' hS hiC hbr hbr2 hbC
        generalize ofL (mtxt ⟨⟨#[97]⟩, ⟨#[98]⟩, [⟨⟨#[110]⟩, pv, true⟩]⟩) = OT at *
        generalize ofL (61 :: valT pv) = CT at *
        generalize greatS pn = PN at *
        generalize ofL (txC P a b l i) = TB at *
        go_upto_region 14 with (fail)
        rw [← hwC]
        have n1 : ¬ 9223372036854775807 < PB.size + 1 := by omega
        have n2 : ¬ 9223372036854775807 < PB.size + 1 + PB.size := by omega
        have n3 : ¬ 9223372036854775807 < PB.size + 1 + PB.size + PN.size := by omega
        have n4 : ¬ 9223372036854775807 < PB.size + 1 + PB.size + PN.size + CT.size := by omega
        have n5 : ¬ 9223372036854775807 < PB.size + 1 + PB.size + PN.size + CT.size + PB.size := by omega
        have n6 : ¬ 9223372036854775807 < TB.size + (PB.size + 1 + PB.size + PN.size + CT.size + PB.size) := by omega
        have y0 : wC.drew.cell? ⟨wr.heap.size, 0, none⟩ = some (.string pn) := q0
        have hmd : MediaAt wC.drew (wr.heap.size + 2) ⟨#[97]⟩ ⟨#[98]⟩ (some ⟨wr.heap.size + 1, 0, none⟩) 1 1 := hmC
        have Ld := hmd.load
        obtain ⟨y1, y2, y3⟩ := hmd.cells
        clear hwC hmC hmd hNC q0 d0 d1 d2
        go_region_law (go_simp; (first | (go_at_call 15; with_reducible refine (cUn.out _).mono ?_) | (go_at_call 10; refine (cX1.out _ (by assumption)).mono ?_)); rintro e w6 ⟨rfl, hk6⟩; (have hk7 : Below wC.heap.size wC w6 := Bt (by assumption) hk6); obtain ⟨g0, g1⟩ := HS.out _ hk7; have Lg := g1.load; obtain ⟨g2, g3, g4⟩ := g1.cells; dsimp only)
        all_goals
          have hbE := Bt hbrC hk7
          have hbE2 := hbrC2.trans (hk7.mono hbrC2.size)
          clear hbrC hbrC2 hd HS cX1 cUn hcut1 h6 y0 y1 y2 y3 Ld hk6 hk7 g0 g1 Lg g2 g3 g4 n1 n2 n3 n4 n5 n6
          go_wp2_with fail
          go_roundw
          case rel => exact ⟨i + 1, by omega, by go_num, by rw [HFIN.out], hbE, hbE2⟩
          case measure => simp [intOf]; omega
      · obtain rfl : i = l.length := by omega
        have hTz := ofL_size (txC P a b l l.length)
        generalize ofL (txC P a b l l.length) = TB at *
        by_cases hT : 1000 < TB.size
        · have hTI2 : (TB.size : Int) > 1000 := by omega
          clear hTz
          go_wp2_with fail
          go_ret
          exact ⟨rfl, hbr⟩
        · have hTI2 : ¬ (TB.size : Int) > 1000 := by omega
          have CB := Lib.hid (cB.out (by omega))
          have hmr := hm5.below hbr2
          have hir := HI5.out.below hbr2
          clear hTz hT x0 x1 x2 hm5 HI5 hbr2 cB
          go_wp2_with fail
          refine (CB.out _).mono ?_
          rintro e w11 ⟨hb11, ra, rc, rfl, hk11⟩
          have hb111 := Bt hbr hb11
          have hm11 := hmr.below hb11
          have hi11 := hir.below hb11
          have hm12 := MediaAt.new (w := w11) (n := a) (v := b) (pa := ra) (l := l.length) (c := rc)
          have hst := (Below.refl w11.heap.size w11).alloc (Nat.le_refl _) (.cells #[.string a, .string b, .slice ra l.length rc] 24)
          have hm11' := hm11.below hst
          have hi12 := hi11.below hst
          have hk12 := hk11.below hst
          have hb112 := Bt hb111 hst
          have L11 := hm11'.load
          have L12 := hm12.load
          obtain ⟨x0, x1, x2⟩ := hm11'.cells
          obtain ⟨y0, y1, y2⟩ := hm12.cells
          have CS := Lib.hid (cS.out ra rc pa pc _ hk12 hi12)
          clear hbr hmr hir hb11 hb111 hm11 hi11 hst hm11' hm12 hi12 hk12 hk11 CB
          go_wp2_with fail
          refine CS.out.mono ?_
          rintro e w13 ⟨rfl, hb13⟩
          go_wp2_with fail
          go_ret
          exact ⟨rfl, Bt hb112 hb13⟩
theorem walkMediaCases (s : ByteArray) (n : Int) (w : World) (_ : Utf8Laid w) (_ : s.size ≤ maxLen) (hn : (Lit.int .u8 n).wf = true) : Calls Tryz.prog 4 #[.string s, .int .u8 n] w fun e w' => e = .returned (.bool true) ∧ Below w.heap.size w w' := by
  have hw : 0 ≤ n ∧ n < 256 := by
    simp [Lit.wf, IntKind.min, IntKind.max, IntKind.signed, IntKind.bits] at hn
    omega
  obtain ⟨k, rfl⟩ := Int.eq_ofNat_of_zero_le hw.1
  by_cases h : s.size ≤ 400
  · cases hp : parseM s with
    | ok m => exact mcases_ok s k m w h (by omega) hp
    | error x => obtain ⟨k', i⟩ := x; exact mcases_err s _ k' i w h hp
  · exact mcases_long s _ w (by omega)
end Go.Proofs.YtndppcklpcfikaaGreatDoor
