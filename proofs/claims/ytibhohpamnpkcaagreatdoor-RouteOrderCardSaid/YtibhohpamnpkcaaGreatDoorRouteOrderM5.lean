/- Of the references: the scheme of chapter 04, and of chapter 14; a part's normal form. -/
import Derived.Test.YtibhohpamnpkcaaGreatDoorRouteOrderM2
import Derived.Test.YtibhohpamnpkcaaGreatDoorRouteOrderM4
import Derived.Test.YtibhohpamnpkcaaGreatDoorRouteOrderM1
import Derived.Lib.DecodeNEq
import Derived.Shelf.Unicode.DecodeSlow
import Derived.LaidHandle
import Derived.LaidLaws
import Derived.Stop.Joined
import Derived.Lib.LaidU8T
import Derived.Laws.Tables
import Derived.Test.YtibhohpamnpkcaaGreatDoorShelf

namespace Go.Proofs.YtibhohpamnpkcaaGreatDoor
open Go.RowKit

def signS : ByteArray := ⟨#[43, 45, 46]⟩
/-- May a byte stand in a scheme, at a place? -/
def schB (i : Nat) (c : UInt8) : Bool := letB04 c || (decide (i ≠ 0) && (digB04 c || hasB signS c))
def schF (s : ByteArray) : Nat → Nat → Nat × Nat
  | 0, _ => if s.size = 0 then (10, 0) else (0, 0)
  | f + 1, i => if i = 64 then (14, 64) else if schB i (byteAt s i) = true then schF s f (i + 1) else (11, i)
/-- What is wrong with a scheme (0: nothing), and where. -/
def schE (s : ByteArray) : Nat × Nat := schF s s.size 0
theorem schF_step {s : ByteArray} {i : Nat} (hi : i < s.size) (h : i ≠ 64) (hb : schB i (byteAt s i) = true) : schF s (s.size - i) i = schF s (s.size - (i + 1)) (i + 1) := by
  obtain ⟨f, hf⟩ : ∃ f, s.size - i = f + 1 := ⟨s.size - i - 1, by omega⟩
  rw [hf, schF, if_neg h, if_pos hb, show s.size - (i + 1) = f by omega]
theorem schF_bad {s : ByteArray} {i : Nat} (hi : i < s.size) (h : i ≠ 64) (hb : schB i (byteAt s i) = false) : schF s (s.size - i) i = (11, i) := by
  obtain ⟨f, hf⟩ : ∃ f, s.size - i = f + 1 := ⟨s.size - i - 1, by omega⟩
  rw [hf, schF, if_neg h, if_neg (by rw [hb]; decide)]
theorem schF_long {s : ByteArray} (hi : 64 < s.size) : schF s (s.size - 64) 64 = (14, 64) := by
  obtain ⟨f, hf⟩ : ∃ f, s.size - 64 = f + 1 := ⟨s.size - 64 - 1, by omega⟩
  rw [hf, schF, if_pos rfl]
theorem schF_end {s : ByteArray} : schF s (s.size - s.size) s.size = if s.size = 0 then (10, 0) else (0, 0) := by
  rw [Nat.sub_self, schF]
set_option maxHeartbeats 3200000 in
theorem ref04_Scheme (s : ByteArray) (w : World) (hs : s.size ≤ 16777216) :
    Calls Tryz.prog 79 #[.string s] w fun e w' => e = .returned (.tuple #[.int .i64 ((schE s).1 : Int), .int .i64 ((schE s).2 : Int)]) ∧ w = w' := by
  have HE := Lib.hid (show schE s = schF s (s.size - 0) 0 by rw [Nat.sub_zero]; rfl)
  generalize schE s = E at *
  have CL := Lib.hid (fun c W => ref04_letter c W)
  have CD := Lib.hid (fun c W => ref04_digit c W)
  have CH := Lib.hid (fun c W => ref_Has signS c W (by decide))
  unfold signS at CH
  go_enter Tryz.func79, Tryz.ntmps79
  go_wp2_with fail
  go_loop [4] (fun x => ∃ i : Nat, i ≤ s.size ∧ x = .int .i64 i ∧ E = schF s (s.size - i) i) (fun x => s.size - (intOf x).toNat)
  case atStart => exact ⟨0, Nat.zero_le _, rfl, HE.out⟩
  case round =>
    obtain ⟨i, hil, rfl, hf⟩ := hrel
    have HF := Lib.hid hf
    clear hf HE
    by_cases hlt : i < s.size
    · by_cases h64 : i = 64
      · have e1 : ((i : Int) == 64) = true := by rw [h64]; rfl
        have HX := Lib.hid (show E = (14, i) by rw [HF.out, h64]; exact schF_long (by omega))
        clear h64 HF
        go_wp2_with fail
        go_ret2
        exact ⟨by rw [HX.out]; rfl, rfl⟩
      have e1 : ((i : Int) == 64) = false := by rw [beq_eq_false_iff_ne]; omega
      have hb := byteAt_el hlt
      have C1 := Lib.hid (fun W => CL.out s[i] W)
      have C2 := Lib.hid (fun W => CD.out s[i] W)
      have C3 := Lib.hid (fun W => CH.out s[i] W)
      have HST := Lib.hid (@schF_step s i hlt h64)
      have HBD := Lib.hid (@schF_bad s i hlt h64)
      have HSB := Lib.hid (show schB i (byteAt s i) = (letB04 s[i] || (decide (i ≠ 0) && (digB04 s[i] || hasB ⟨#[43, 45, 46]⟩ s[i]))) by rw [hb]; rfl)
      rw [HSB.out] at HST HBD
      clear hb HSB h64
      generalize letB04 s[i] = k1 at *
      generalize digB04 s[i] = k2 at *
      generalize hasB ⟨#[43, 45, 46]⟩ s[i] = k3 at *
      go_wp2_with fail
      refine (C1.out _).mono ?_
      rintro e w2 ⟨rfl, rfl⟩
      cases k1
      · by_cases h0 : i = 0
        · have e0 : ((i : Int) == 0) = true := by rw [h0]; rfl
          have HX := Lib.hid (HF.out.trans (HBD.out (by simp [h0])))
          clear h0 HBD HST HF
          go_wp2_with fail
          go_ret2
          exact ⟨by rw [HX.out]; rfl, rfl⟩
        have e0 : ((i : Int) == 0) = false := by rw [beq_eq_false_iff_ne]; omega
        rw [decide_eq_true h0] at HST HBD
        clear h0
        go_wp2_with fail
        refine (C2.out _).mono ?_
        rintro e w3 ⟨rfl, rfl⟩
        cases k2
        · go_wp2_with fail
          refine (C3.out _).mono ?_
          rintro e w4 ⟨rfl, rfl⟩
          cases k3
          · have HX := Lib.hid (HF.out.trans (HBD.out rfl))
            clear HBD HST HF
            go_wp2_with fail
            go_ret2
            exact ⟨by rw [HX.out]; rfl, rfl⟩
          · have HX := Lib.hid (HF.out.trans (HST.out rfl))
            clear HBD HST HF
            go_wp2_with fail
            go_round
            case rel => exact ⟨i + 1, by omega, by go_num, HX.out⟩
            case measure => simp [intOf]; omega
        · have HX := Lib.hid (HF.out.trans (HST.out rfl))
          clear HBD HST HF
          go_wp2_with fail
          go_round
          case rel => exact ⟨i + 1, by omega, by go_num, HX.out⟩
          case measure => simp [intOf]; omega
      · have HX := Lib.hid (HF.out.trans (HST.out rfl))
        clear HBD HST HF
        go_wp2_with fail
        go_round
        case rel => exact ⟨i + 1, by omega, by go_num, HX.out⟩
        case measure => simp [intOf]; omega
    · obtain rfl : i = s.size := by omega
      have HX := Lib.hid (HF.out.trans schF_end)
      by_cases h0 : s.size = 0
      · have e0 : ((s.size : Int) == 0) = true := by rw [h0]; rfl
        have HY := Lib.hid (HX.out.trans (if_pos h0))
        clear h0 HX HF
        go_wp2_with fail
        go_ret2
        exact ⟨by rw [HY.out]; rfl, rfl⟩
      · have e0 : ((s.size : Int) == 0) = false := by rw [beq_eq_false_iff_ne]; omega
        have HY := Lib.hid (HX.out.trans (if_neg h0))
        clear h0 HX HF
        go_wp2_with fail
        go_ret2
        exact ⟨by rw [HY.out]; rfl, rfl⟩
/-- What is wrong: the number, the place, the number of the one that it came from. -/
structure Wr where
  kind : Nat
  at_ : Nat
  from_ : Nat
def wrA (x : Wr) : Array Value := #[.int .i64 (x.kind : Int), .int .i64 (x.at_ : Int), .int .i64 (x.from_ : Int)]
def wrV (x : Wr) : Value := .agg #[.int .i64 (x.kind : Int), .int .i64 (x.at_ : Int), .int .i64 (x.from_ : Int)]
def scheme14 (s : ByteArray) : ByteArray × Wr :=
  if (schE (s.extract 0 (firstM s 0 ⟨#[58]⟩))).1 ≠ 0 then (⟨#[]⟩, ⟨20, (schE (s.extract 0 (firstM s 0 ⟨#[58]⟩))).2, (schE (s.extract 0 (firstM s 0 ⟨#[58]⟩))).1⟩)
  else if firstM s 0 ⟨#[58]⟩ = s.size then (⟨#[]⟩, ⟨20, firstM s 0 ⟨#[58]⟩, 0⟩) else (lowerS (s.extract 0 (firstM s 0 ⟨#[58]⟩)), ⟨0, 0, 0⟩)
def part14 (s : ByteArray) (a b : Nat) : ByteArray × Wr :=
  match (told (s.extract a b)).2 with
  | some i => (⟨#[]⟩, ⟨11, a + i, 11⟩)
  | none => (normS (s.extract a b), ⟨0, 0, 0⟩)
theorem isWr : IsStr 95 3 := ⟨⟨_, Tryz.underlying95⟩, by kernel_rfl⟩
set_option maxHeartbeats 1600000 in
theorem ref14_Scheme (s : ByteArray) (w : World) (hs : s.size ≤ 16777216) :
    Calls Tryz.prog 55 #[.string s] w fun e w' => e = .returned (.tuple #[.string (scheme14 s).1, wrV (scheme14 s).2]) ∧ Below w.heap.size w w' := by
  have hfl := firstM_le s ⟨#[58]⟩ _ 0 rfl (Nat.zero_le _)
  have CF := Lib.hid (fun W => ref14_first s ⟨#[58]⟩ 0 W hs (by decide) (Nat.zero_le _))
  have hzx : (s.extract 0 (firstM s 0 ⟨#[58]⟩)).size ≤ 16777216 := by simp; omega
  have CS := Lib.hid (fun W => ref04_Scheme (s.extract 0 (firstM s 0 ⟨#[58]⟩)) W hzx)
  have CL := Lib.hid (fun W => ref_Lower (s.extract 0 (firstM s 0 ⟨#[58]⟩)) W hzx)
  have HE := Lib.hid (show scheme14 s = if (schE (s.extract 0 (firstM s 0 ⟨#[58]⟩))).1 ≠ 0 then (⟨#[]⟩, ⟨20, (schE (s.extract 0 (firstM s 0 ⟨#[58]⟩))).2, (schE (s.extract 0 (firstM s 0 ⟨#[58]⟩))).1⟩)
    else if firstM s 0 ⟨#[58]⟩ = s.size then (⟨#[]⟩, ⟨20, firstM s 0 ⟨#[58]⟩, 0⟩) else (lowerS (s.extract 0 (firstM s 0 ⟨#[58]⟩)), ⟨0, 0, 0⟩) from rfl)
  generalize scheme14 s = R at *
  generalize lowerS (s.extract 0 (firstM s 0 ⟨#[58]⟩)) = low at *
  generalize (schE (s.extract 0 (firstM s 0 ⟨#[58]⟩))).1 = k at *
  generalize (schE (s.extract 0 (firstM s 0 ⟨#[58]⟩))).2 = a at *
  generalize firstM s 0 ⟨#[58]⟩ = n at *
  have hn := hfl.2
  have HAL := Lib.hid (below_alloc w (.cells #[.int .i64 0, .int .i64 0, .int .i64 0] 95))
  have HBL := Lib.hid (BlkAt.new w #[.int .i64 0, .int .i64 0, .int .i64 0] 95)
  clear hfl hzx
  go_enter Tryz.func55, Tryz.ntmps55
  go_wp2_with fail
  refine (CF.out _).mono ?_
  rintro e w2 ⟨rfl, rfl⟩
  go_wp2_with fail
  refine (CS.out _).mono ?_
  rintro e w3 ⟨rfl, rfl⟩
  by_cases hk : k = 0
  · have ek : ((k : Int) != 0) = false := by rw [hk]; rfl
    rw [if_neg (by omega)] at HE
    by_cases hns : n = s.size
    · have en : ((n : Int) == (s.size : Int)) = true := by rw [hns]; simp
      rw [if_pos hns] at HE
      clear hns hk
      go_wp2_with fail
      refine bodyPost_ret (results_tc rfl rfl (BlkAt.new _ _ _) isWr) rfl ?_
      exact ⟨by rw [HE.out]; rfl, below_alloc _ _⟩
    · have en : ((n : Int) == (s.size : Int)) = false := by rw [beq_eq_false_iff_ne]; omega
      rw [if_neg hns] at HE
      clear hns hk
      go_wp2_with fail
      refine (CL.out _).mono ?_
      rintro e w4 ⟨rfl, hb⟩
      have hb4 := Bt HAL.out hb
      have hB4 := HBL.out.below hb
      clear hb
      go_wp2_with (refine wpList_store_blk rfl _ _ _ rfl w.heap.size #[.int .i64 0, .int .i64 0, .int .i64 0] _ rfl rfl isWr hB4 rfl (by simp [Value.oneCell']) ?_; intro hst)
      refine bodyPost_ret (results_tc rfl rfl hst isWr) rfl ?_
      exact ⟨by rw [HE.out]; rfl, below_setR hb4 (Nat.le_refl _) _⟩
  · have ek : ((k : Int) != 0) = true := by rw [bne_iff_ne]; omega
    rw [if_pos hk] at HE
    clear hk
    go_wp2_with fail
    refine bodyPost_ret (results_tc rfl rfl (BlkAt.new _ _ _) isWr) rfl ?_
    exact ⟨by rw [HE.out]; rfl, below_alloc _ _⟩
end Go.Proofs.YtibhohpamnpkcaaGreatDoor

/- The code's ints. -/
namespace Go.Proofs.YtibhohpamnpkcaaGreatDoor
open Go.RowKit

theorem info_int : (Tryz.prog.info? 3).map (fun i => (i.zero, i.size, i.bytes)) = some (some (.int .i64 0), 1, 8) := by kernel_rfl
def intV (n : Nat) : Value := .int .i64 (n : Int)
end Go.Proofs.YtibhohpamnpkcaaGreatDoor

/- Plain facts on UTF-8: the character at a place of a text. -/
namespace Go.Proofs.YtibhohpamnpkcaaGreatDoor

/-- What Go's decoder tells of a place. -/
def decB (s : ByteArray) (i : Nat) : Nat × Nat := Lib.decodeN (s.size - i) (byteAt s i).toNat (byteAt s (i + 1)).toNat (byteAt s (i + 2)).toNat (byteAt s (i + 3)).toNat
/-- A character stands at a place. -/
def okB (s : ByteArray) (i : Nat) : Bool := decide (decB s i ≠ (65533, 1))
/-- A number is a character. -/
def rightC (n : Nat) : Prop := n < 55296 ∨ (57344 ≤ n ∧ n ≤ 1114111)

theorem byteAt_get (s : ByteArray) (i : Nat) : s.get! i = byteAt s i := by
  unfold byteAt ByteArray.get!
  simp [List.getD, Array.getElem!_eq_getD, Array.getD_eq_getD_getElem?]
  rfl

theorem decodeN_bounds (n b0 b1 b2 b3 : Nat) (hn : 0 < n) (h0 : b0 < 256) : 1 ≤ (Lib.decodeN n b0 b1 b2 b3).2 ∧ (Lib.decodeN n b0 b1 b2 b3).2 ≤ 4 ∧ (Lib.decodeN n b0 b1 b2 b3).2 ≤ n ∧ rightC (Lib.decodeN n b0 b1 b2 b3).1 := by
  unfold Lib.decodeN rightC
  repeat' split
  all_goals (simp only []; omega)

theorem decB_bounds (s : ByteArray) (i : Nat) (hi : i < s.size) : 1 ≤ (decB s i).2 ∧ (decB s i).2 ≤ 4 ∧ i + (decB s i).2 ≤ s.size ∧ rightC (decB s i).1 := by
  have := decodeN_bounds (s.size - i) (byteAt s i).toNat (byteAt s (i + 1)).toNat (byteAt s (i + 2)).toNat (byteAt s (i + 3)).toNat (by omega) (byteAt s i).toNat_lt
  change 1 ≤ (decB s i).2 ∧ (decB s i).2 ≤ 4 ∧ (decB s i).2 ≤ s.size - i ∧ rightC (decB s i).1 at this
  obtain ⟨a, b, c, d⟩ := this
  exact ⟨a, b, by omega, d⟩

theorem byteAt_extract (s : ByteArray) (i j : Nat) (_ : i + j < s.size) : byteAt (s.extract i s.size) j = byteAt s (i + j) := by
  unfold byteAt
  rw [Lib.extract_data, List.take_of_length_le (by simp)]
  simp [List.getD]
theorem byteAt_out (s : ByteArray) (j : Nat) (h : s.size ≤ j) : byteAt s j = 0 := by
  unfold byteAt
  rw [List.getD, List.getElem?_eq_none (by exact h)]
  rfl
theorem extract_tail_size (s : ByteArray) (i : Nat) (h : i ≤ s.size) : (s.extract i s.size).size = s.size - i := by
  rw [ByteArray.size_extract]; omega

theorem decodeGo_extract (s : ByteArray) (i : Nat) (hi : i < s.size) : Lib.decodeGo (s.extract i s.size) = decB s i := by
  have hsz := extract_tail_size s i (by omega)
  have hb : ∀ j, byteAt (s.extract i s.size) j = byteAt s (i + j) := fun j => by
    by_cases h : i + j < s.size
    · exact byteAt_extract s i j h
    · rw [byteAt_out _ _ (by rw [hsz]; omega), byteAt_out _ _ (by omega)]
  rw [Lib.decodeGo, if_neg (by omega), Lib.decode_at, hsz, Nat.sub_zero]
  simp only [byteAt_get, hb, Nat.zero_add, decB, Nat.add_zero]

/-- The characters from a place on, and the place at which none stands. -/
def chrsFrom (s : ByteArray) : Nat → Nat → List Nat × Option Nat
  | 0, _ => ([], none)
  | f + 1, i => if i < s.size then (if okB s i = true then ((decB s i).1 :: (chrsFrom s f (i + (decB s i).2)).1, (chrsFrom s f (i + (decB s i).2)).2) else ([], some i)) else ([], none)
/-- A text's characters, and the place at which none stands. -/
def chrs (s : ByteArray) : List Nat × Option Nat := chrsFrom s s.size 0

/-- So many characters have been read, up to a place. -/
def Reach (s : ByteArray) (l : List Nat) (i : Nat) : Prop := ∃ f, s.size - i ≤ f ∧ l.length ≤ i ∧ chrs s = (l ++ (chrsFrom s f i).1, (chrsFrom s f i).2)
theorem Reach.zero (s : ByteArray) : Reach s [] 0 := ⟨s.size, by omega, by simp, by simp [chrs]⟩
theorem Reach.step {s : ByteArray} {l : List Nat} {i : Nat} (h : Reach s l i) (hi : i < s.size) (ho : okB s i = true) : Reach s (l ++ [(decB s i).1]) (i + (decB s i).2) := by
  obtain ⟨f, hf, hl, e⟩ := h
  have hd := decB_bounds s i hi
  cases f with
  | zero => omega
  | succ f =>
    rw [chrsFrom, if_pos hi, if_pos ho] at e
    exact ⟨f, by omega, by simp; omega, by simpa using e⟩
theorem Reach.bad {s : ByteArray} {l : List Nat} {i : Nat} (h : Reach s l i) (hi : i < s.size) (ho : okB s i = false) : chrs s = (l, some i) := by
  obtain ⟨f, hf, hl, e⟩ := h
  cases f with
  | zero => omega
  | succ f =>
    rw [chrsFrom, if_pos hi, if_neg (by simp [ho])] at e
    simpa using e
theorem Reach.done {s : ByteArray} {l : List Nat} {i : Nat} (h : Reach s l i) (hi : ¬ i < s.size) : chrs s = (l, none) := by
  obtain ⟨f, hf, hl, e⟩ := h
  cases f with
  | zero => rw [chrsFrom] at e; simpa using e
  | succ f =>
    rw [chrsFrom, if_neg hi] at e
    simpa using e
end Go.Proofs.YtibhohpamnpkcaaGreatDoor

/- Plain facts: the reference's way to a character (its bytes are made, and held against what stands there) is Go's decoder's. -/
namespace Go.Proofs.YtibhohpamnpkcaaGreatDoor

/-- A character's bytes. -/
def putN (n : Nat) : List Nat :=
  if n < 128 then [n] else if n < 2048 then [192 + n / 64, 128 + n % 64] else if n < 65536 then [224 + n / 4096, 128 + n / 64 % 64, 128 + n % 64]
  else [240 + n / 262144, 128 + n / 4096 % 64, 128 + n / 64 % 64, 128 + n % 64]
/-- The number that so many bytes would tell. -/
def guessZ (k b0 b1 b2 b3 : Int) : Int :=
  if k = 1 then b0 else if k = 2 then 64 * (b0 - 192) + b1 - 128 else if k = 3 then 64 * (64 * (b0 - 224) + b1 - 128) + b2 - 128 else 64 * (64 * (64 * (b0 - 240) + b1 - 128) + b2 - 128) + b3 - 128
def rightZ (n : Int) : Prop := 0 ≤ n ∧ n < 1114112 ∧ ¬ (55296 ≤ n ∧ n < 57344)
def firstN (k b0 b1 b2 b3 : Nat) : List Nat := [b0, b1, b2, b3].take k

theorem guess1 (b0 b1 b2 b3 : Int) : guessZ 1 b0 b1 b2 b3 = b0 := by simp [guessZ]
theorem guess2 (b0 b1 b2 b3 : Int) : guessZ 2 b0 b1 b2 b3 = 64 * (b0 - 192) + b1 - 128 := by simp [guessZ]
theorem guess3 (b0 b1 b2 b3 : Int) : guessZ 3 b0 b1 b2 b3 = 64 * (64 * (b0 - 224) + b1 - 128) + b2 - 128 := by simp [guessZ]
theorem guess4 (b0 b1 b2 b3 : Int) : guessZ 4 b0 b1 b2 b3 = 64 * (64 * (64 * (b0 - 240) + b1 - 128) + b2 - 128) + b3 - 128 := by simp [guessZ]

theorem hit_dec {n k b0 b1 b2 b3 : Nat} (hk1 : 1 ≤ k) (hk4 : k ≤ 4) (hkn : k ≤ n) (h0 : b0 < 256) (h1 : b1 < 256) (h2 : b2 < 256) (_ : b3 < 256) (hr : rightZ (guessZ k b0 b1 b2 b3))
    (hp : putN (guessZ k b0 b1 b2 b3).toNat = firstN k b0 b1 b2 b3) : Lib.decodeN n b0 b1 b2 b3 = ((guessZ k b0 b1 b2 b3).toNat, k) ∧ ((guessZ k b0 b1 b2 b3).toNat, k) ≠ (65533, 1) := by
  unfold rightZ at hr
  obtain ⟨N, hN⟩ := Int.eq_ofNat_of_zero_le hr.1
  rw [hN] at hr hp ⊢
  rw [Int.toNat_natCast] at hp ⊢
  have hc : k = 1 ∨ k = 2 ∨ k = 3 ∨ k = 4 := by omega
  rcases hc with rfl | rfl | rfl | rfl
  · rw [show ((1 : Nat) : Int) = 1 from rfl, guess1] at hN
    unfold putN firstN at hp
    repeat' split at hp
    all_goals simp at hp
    refine ⟨?_, by simp; omega⟩
    unfold Lib.decodeN
    rw [if_pos (by omega)]
    simp; omega
  · rw [show ((2 : Nat) : Int) = 2 from rfl, guess2] at hN
    unfold putN firstN at hp
    repeat' split at hp
    all_goals simp at hp
    refine ⟨?_, by simp⟩
    unfold Lib.decodeN
    rw [if_neg (by omega), if_pos (by omega), if_pos (by omega)]
    simp; omega
  · rw [show ((3 : Nat) : Int) = 3 from rfl, guess3] at hN
    unfold putN firstN at hp
    repeat' split at hp
    all_goals simp at hp
    refine ⟨?_, by simp⟩
    unfold Lib.decodeN
    rw [if_neg (by omega), if_neg (by omega), if_pos (by omega), if_pos (by omega)]
    simp; omega
  · rw [show ((4 : Nat) : Int) = 4 from rfl, guess4] at hN
    unfold putN firstN at hp
    repeat' split at hp
    all_goals simp at hp
    refine ⟨?_, by simp⟩
    unfold Lib.decodeN
    rw [if_neg (by omega), if_neg (by omega), if_neg (by omega), if_pos (by omega), if_pos (by omega)]
    simp; omega

theorem dec_hit {n b0 b1 b2 b3 : Nat} (hn : 0 < n) (h0 : b0 < 256) (h1 : b1 < 256) (h2 : b2 < 256) (_ : b3 < 256) (ho : Lib.decodeN n b0 b1 b2 b3 ≠ (65533, 1)) :
    ∃ k, 1 ≤ k ∧ k ≤ 4 ∧ k ≤ n ∧ rightZ (guessZ k b0 b1 b2 b3) ∧ putN (guessZ k b0 b1 b2 b3).toNat = firstN k b0 b1 b2 b3 := by
  unfold Lib.decodeN at ho
  repeat' split at ho
  all_goals first | exact absurd rfl ho | skip
  · refine ⟨1, by omega, by omega, by omega, ?_, ?_⟩
    all_goals rw [show ((1 : Nat) : Int) = 1 from rfl, guess1]
    · unfold rightZ; omega
    · rw [Int.toNat_natCast]; unfold putN firstN
      rw [if_pos (by omega)]; rfl
  · refine ⟨2, by omega, by omega, by omega, ?_, ?_⟩
    all_goals rw [show ((2 : Nat) : Int) = 2 from rfl, guess2]
    · unfold rightZ; omega
    · unfold putN firstN
      rw [if_neg (by omega), if_pos (by omega)]
      simp; omega
  · refine ⟨3, by omega, by omega, by omega, ?_, ?_⟩
    all_goals rw [show ((3 : Nat) : Int) = 3 from rfl, guess3]
    · unfold rightZ; omega
    · unfold putN firstN
      rw [if_neg (by omega), if_neg (by omega), if_pos (by omega)]
      simp; omega
  · refine ⟨4, by omega, by omega, by omega, ?_, ?_⟩
    all_goals rw [show ((4 : Nat) : Int) = 4 from rfl, guess4]
    · unfold rightZ; omega
    · unfold putN firstN
      rw [if_neg (by omega), if_neg (by omega), if_neg (by omega)]
      simp; omega
end Go.Proofs.YtibhohpamnpkcaaGreatDoor

/- What a row's list of package variables gives: errors.errorType; plain data. -/
namespace Go.Proofs.YtibhohpamnpkcaaGreatDoor
open Go.ChangeShapes Go.WideShapes Go.RowKit

/-- The package-level variable that errors.As reads, as the row lists it. -/
def Handle (w : World) : Prop := w.cell? ⟨0, 0, none⟩ = some (.iface 153 (.agg #[.pointer (some ⟨5, 42, none⟩)]))
theorem Handle.below {w w' : World} (h : Handle w) (hb : Below w.heap.size w w') : Handle w' := (hb.cell (World.block_lt_of_cell? w _ h)).trans h
theorem Handle.drewN {w : World} (h : Handle w) (n : Nat) : Handle (w.drewN n) := h

theorem laid_et : Tryz.prog.globalNamed "errors.errorType" = some 0 := by kernel_rfl
theorem laid_row : ((List.range 355).filter fun t => Tryz.prog.rowNamed t [101, 114, 114, 111, 114]) = [42] := by kernel_rfl
theorem laid_size : Tryz.prog.types.size = 355 := by kernel_rfl

theorem handle_of_laid {l : List (String × DataW Unit)} {W : World} (h : laidMetH Tryz.prog l W) (hx : ("errors.errorType", Rows.laid_errors_errorType) ∈ l) : Handle W := by
  have hs : (Rows.laid_errors_errorType : DataW Unit).handleName?.isSome = true := rfl
  have hm : ("errors.errorType", Rows.laid_errors_errorType) ∈ l.filter fun x => x.2.handleName?.isSome := List.mem_filter.2 ⟨hx, hs⟩
  unfold laidMetH at h
  generalize (l.filter fun x => x.2.handleName?.isSome) = fl at h hm
  cases fl with
  | nil => cases hm
  | cons a q =>
    obtain ⟨name, u, ty, e1, e2, e3, e4, e5⟩ := h.2 _ hm
    have en : name = [101, 114, 114, 111, 114] := (Option.some.inj e1).symm
    subst en
    obtain rfl : u = 153 := Option.some.inj (e2.symm.trans (by kernel_rfl))
    have hm : ty ∈ (List.range 355).filter fun t => Tryz.prog.rowNamed t [101, 114, 114, 111, 114] := List.mem_filter.2 ⟨List.mem_range.2 (by rw [← laid_size]; exact e3), e4⟩
    rw [laid_row] at hm
    obtain rfl := List.mem_singleton.1 hm
    have hh : typeHandle Tryz.prog 42 = .pointer (some ⟨5, 42, none⟩) := by kernel_rfl
    rw [hh] at e5
    simpa [Handle] using World.var?_cell laid_et e5 0

theorem data_of_laid {l : List (String × DataW Unit)} {W : World} (h : laidMetH Tryz.prog l W) {n : String} {d : DataW Unit} (hx : (n, d) ∈ l) (hd : d.handleName?.isNone = true) : Lib.VarReads Tryz.prog W n d := by
  unfold laidMetH at h
  generalize hfl : (l.filter fun x => x.2.handleName?.isSome) = fl at h
  cases fl with
  | nil => exact Lib.laidMet.reads h hx
  | cons a q => exact Lib.laidMet.reads h.1 (List.mem_filter.2 ⟨hx, hd⟩)

end Go.Proofs.YtibhohpamnpkcaaGreatDoor

/- The table of package subst. -/
namespace Go.Proofs.YtibhohpamnpkcaaGreatDoor

/-- The variables that there are always. -/
def clsT : List (ByteArray × ByteArray × Nat) := [(⟨#[97, 108, 112, 104, 97]⟩, ⟨#[97, 98, 99, 100, 101, 102, 103, 104, 105, 106, 107, 108, 109, 110, 111, 112, 113, 114, 115, 116, 117, 118, 119, 120, 121, 122, 65, 66, 67, 68, 69, 70, 71, 72, 73, 74, 75, 76, 77, 78, 79, 80, 81, 82, 83, 84, 85, 86, 87, 88, 89, 90]⟩, 1), (⟨#[117, 112, 112, 101, 114]⟩, ⟨#[65, 66, 67, 68, 69, 70, 71, 72, 73, 74, 75, 76, 77, 78, 79, 80, 81, 82, 83, 84, 85, 86, 87, 88, 89, 90]⟩, 1), (⟨#[108, 111, 119, 101, 114]⟩, ⟨#[97, 98, 99, 100, 101, 102, 103, 104, 105, 106, 107, 108, 109, 110, 111, 112, 113, 114, 115, 116, 117, 118, 119, 120, 121, 122]⟩, 1), (⟨#[100, 105, 103, 105, 116]⟩, ⟨#[48, 49, 50, 51, 52, 53, 54, 55, 56, 57]⟩, 1), (⟨#[97, 108, 110, 117, 109]⟩, ⟨#[97, 98, 99, 100, 101, 102, 103, 104, 105, 106, 107, 108, 109, 110, 111, 112, 113, 114, 115, 116, 117, 118, 119, 120, 121, 122, 65, 66, 67, 68, 69, 70, 71, 72, 73, 74, 75, 76, 77, 78, 79, 80, 81, 82, 83, 84, 85, 86, 87, 88, 89, 90, 48, 49, 50, 51, 52, 53, 54, 55, 56, 57]⟩, 1), (⟨#[120, 100, 105, 103, 105, 116]⟩, ⟨#[48, 49, 50, 51, 52, 53, 54, 55, 56, 57, 97, 98, 99, 100, 101, 102, 65, 66, 67, 68, 69, 70]⟩, 1), (⟨#[114, 101, 103, 105, 111, 110]⟩, ⟨#[65, 66, 67, 68, 69, 70, 71, 72, 73, 74, 75, 76, 77, 78, 79, 80, 81, 82, 83, 84, 85, 86, 87, 88, 89, 90]⟩, 2), (⟨#[108, 97, 110, 103]⟩, ⟨#[97, 98, 99, 100, 101, 102, 103, 104, 105, 106, 107, 108, 109, 110, 111, 112, 113, 114, 115, 116, 117, 118, 119, 120, 121, 122]⟩, 2)]
end Go.Proofs.YtibhohpamnpkcaaGreatDoor

/- What a row's list of package variables gives: errors.errorType, the tables of unicode/utf8. A world that holds them. -/
namespace Go.Proofs.YtibhohpamnpkcaaGreatDoor
open Go.ChangeShapes Go.WideShapes Go.RowKit

/-- The tables of unicode/utf8, as their initialisers lay them. -/
def Utf8Laid (w : World) : Prop := Lib.Utf8Tabs 3 4 w
theorem Utf8Laid.below {w w' : World} (h : Utf8Laid w) (hb : Below w.heap.size w w') : Utf8Laid w' :=
  ⟨fun c hc => (hb.cell (World.block_lt_of_cell? w _ (h.1 c hc))).trans (h.1 c hc),
    fun i hi => ⟨(hb.cell (World.block_lt_of_cell? w _ (h.2 i hi).1)).trans (h.2 i hi).1, (hb.cell (World.block_lt_of_cell? w _ (h.2 i hi).2)).trans (h.2 i hi).2⟩⟩
theorem Utf8Laid.drewN {w : World} (h : Utf8Laid w) (n : Nat) : Utf8Laid (w.drewN n) := h

def u8ren : Go.Shelf.Ren := ⟨fun n => n, fun | 5 => 5 | 119 => 320 | 138 => 322 | 139 => 323 | n => n, fun | 3 => 3 | 4 => 4 | n => n⟩
theorem u8types : U8Types Tryz.prog u8ren := { t5 := Tryz.underlying5, t119 := Tryz.underlying320, t138 := Tryz.underlying322, t139 := Tryz.underlying323 }
theorem u8extra : U8Extra Tryz.prog u8ren := { n3 := by kernel_rfl, n4 := by kernel_rfl, y3 := by kernel_rfl, y4 := by kernel_rfl, c5 := by kernel_rfl, c119 := by kernel_rfl, c138 := by kernel_rfl }
theorem u8first : Lib.firstData = Rows.laid_unicode_utf8_first := by kernel_rfl
theorem u8accept : Lib.acceptData = Rows.laid_unicode_utf8_acceptRanges := by kernel_rfl
noncomputable def laidWorld (os : Os) : World :=
  let w0 := World.holding Tryz.prog os ⟨#[], #[], []⟩
  let h1 := w0.heap.modify 0 fun
      | .cells _ t frozen => .cells #[.iface 153 (.agg #[.pointer (some ⟨5, 42, none⟩)])] t frozen
      | o => o
  let h2 := h1.modify 3 fun
      | .cells _ t frozen => .cells (Lib.firstTab.map (Value.int .u8)).toArray t frozen
      | o => o
  let h3 := h2.modify 4 fun
      | .cells _ t frozen => .cells ((List.range 16).flatMap fun i => [Value.int .u8 (Lib.accLo i : Nat), Value.int .u8 (Lib.accHi i : Nat)]).toArray t frozen
      | o => o
  let h3 := h3.modify 1 fun
      | .cells _ t frozen => .cells (clsT.flatMap fun c => [Value.string c.1, .string c.2.1, .int .i64 (c.2.2 : Nat)]).toArray t frozen
      | o => o
  { w0 with heap := h3 }
end Go.Proofs.YtibhohpamnpkcaaGreatDoor

/- utf.Next: the character at a place. -/
namespace Go.Proofs.YtibhohpamnpkcaaGreatDoor
open Go.RowKit

theorem utf8_DecodeRune (s : ByteArray) (i b off cap : Nat) (w : World) (hU : Utf8Laid w) (hi : i < s.size) (hp : BytesIn w b off s) :
    Calls Tryz.prog 178 #[.slice (some ⟨b, off + i, none⟩) (s.size - i) cap] w fun e w' => e = .returned (.tuple #[.int .i32 ((decB s i).1 : Int), .int .i64 ((decB s i).2 : Int)]) ∧ Below w.heap.size w w' := by
  have hsz := extract_tail_size s i (by omega)
  have h := Any7.utf8_DecodeRune Tryz.lays7n32 (s.extract i s.size) b (off + i) cap w hU (fun j hj => by
    rw [byteAt_get, Nat.add_assoc, byteAt_extract s i j (by omega)]
    exact hp (i + j) (by omega))
  rw [decodeGo_extract s i hi, hsz] at h
  exact h

def NextPost (s : ByteArray) (i : Nat) (w : World) (e : Ending) (w' : World) : Prop :=
  Below w.heap.size w w' ∧ ((okB s i = true ∧ e = .returned (.tuple #[.int .i64 ((decB s i).1 : Int), .int .i64 ((decB s i).2 : Int), .nilIface])) ∨
    (okB s i = false ∧ ∃ v, e = .returned (.tuple #[.int .i64 0, .int .i64 0, v]) ∧ IsFault w' v 12 i))

set_option maxHeartbeats 1600000 in
set_option maxRecDepth 100000 in
theorem utf_Next (s : ByteArray) (i b off cap : Nat) (w : World) (hU : Utf8Laid w) (hi : i < s.size) (hc : s.size ≤ cap) (_ : cap ≤ 9223372036854775807) (hp : BytesIn w b off s) :
    Calls Tryz.prog 149 #[.slice (some ⟨b, off, none⟩) s.size cap, .int .i64 (i : Int)] w (NextPost s i w) := by
  obtain ⟨hd1, hd2, hd3, hd4⟩ := decB_bounds s i hi
  have hd5 : (decB s i).1 ≤ 1114111 := by unfold rightC at hd4; omega
  have hok : okB s i = decide (decB s i ≠ (65533, 1)) := rfl
  have hD := Lib.hid (show decB s i = ((decB s i).1, (decB s i).2) from rfl)
  generalize hc1 : (decB s i).1 = c at *
  generalize hn1 : (decB s i).2 = n at *
  have HC := Lib.hid hc1
  have HN := Lib.hid hn1
  have HOK := Lib.hid hok
  clear hc1 hn1 hok hd4
  have hnb : (i : Int) ≤ (s.size : Int) := by omega
  go_enter Tryz.func149, Tryz.ntmps149
  go_wp2_with fail
  refine (utf8_DecodeRune s i b off _ _ hU hi hp).mono ?_
  rintro e w1 ⟨rfl, hb1⟩
  rw [HC.out, HN.out]
  by_cases hc0 : c = 65533
  · by_cases hn0 : n = 1
    · subst hc0 hn0
      go_wp2_with fail
      refine (api_Fail' _ _ _).mono ?_
      rintro e w3 ⟨v, rfl, hv, hb3⟩
      go_wp2_with fail
      go_ret3
      exact ⟨Bt hb1 hb3, .inr ⟨by rw [HOK.out, hD.out]; rfl, v, rfl, hv⟩⟩
    · subst hc0
      have e2 : ((n : Int) == 1) = false := by rw [beq_eq_false_iff_ne]; omega
      go_wp2_with fail
      go_ret3
      exact ⟨hb1, .inl ⟨by rw [HOK.out, hD.out]; simp [hn0], by rw [HC.out, HN.out]; rfl⟩⟩
  · have e1 : ((c : Int) == 65533) = false := by rw [beq_eq_false_iff_ne]; omega
    go_wp2_with fail
    go_ret3
    exact ⟨hb1, .inl ⟨by rw [HOK.out, hD.out]; simp [hc0], by rw [HC.out, HN.out]; rfl⟩⟩

set_option maxHeartbeats 1600000 in
theorem utf_Next_arg (a : Option Addr) (len cap : Nat) (i : Int) (w : World) (hi : i < 0 ∨ (len : Int) < i) :
    Calls Tryz.prog 149 #[.slice a len cap, .int .i64 i] w fun e w' => ∃ v, e = .returned (.tuple #[.int .i64 0, .int .i64 0, v]) ∧ IsFault w' v 1 i ∧ Below w.heap.size w w' := by
  rcases hi with hi | hi
  all_goals
    go_enter Tryz.func149, Tryz.ntmps149
    go_wp2_with fail
    refine (api_Fail' _ _ _).mono ?_
    rintro e w3 ⟨v, rfl, hv, hb3⟩
    go_wp2_with fail
    go_ret3
    exact ⟨v, rfl, hv, hb3⟩

theorem utf_Next_end (a : Option Addr) (len cap : Nat) (w : World) (_ : len ≤ 9223372036854775807) :
    Calls Tryz.prog 149 #[.slice a len cap, .int .i64 (len : Int)] w fun e w' => ∃ v, e = .returned (.tuple #[.int .i64 0, .int .i64 0, v]) ∧ IsFault w' v 10 len ∧ Below w.heap.size w w' := by
  go_enter Tryz.func149, Tryz.ntmps149
  go_wp2_with fail
  refine (api_Fail' _ _ _).mono ?_
  rintro e w3 ⟨v, rfl, hv, hb3⟩
  go_wp2_with fail
  go_ret3
  exact ⟨v, rfl, hv, hb3⟩
end Go.Proofs.YtibhohpamnpkcaaGreatDoor

/- The reference's Half, Right, Put, guess, of chapter 01. -/
namespace Go.Proofs.YtibhohpamnpkcaaGreatDoor
open Go.RowKit

def halfZ (n : Int) : Int := if 55296 ≤ n ∧ n < 56320 then 1 else if 56320 ≤ n ∧ n < 57344 then 2 else 0
def rightB (n : Int) : Bool := decide (0 ≤ n) && decide (n < 1114112) && decide (halfZ n = 0)
theorem rightB_iff (n : Int) : rightB n = true ↔ rightZ n := by
  unfold rightB rightZ halfZ
  simp only [Bool.and_eq_true, decide_eq_true_eq]
  repeat' split
  all_goals omega

set_option maxHeartbeats 800000 in
theorem ref_Half (n : Int) (w : World) : Calls Tryz.prog 171 #[.int .i64 n] w fun e w' => e = .returned (.int .i64 (halfZ n)) ∧ w = w' := by
  have hc : n < 55296 ∨ (55296 ≤ n ∧ n < 56320) ∨ (56320 ≤ n ∧ n < 57344) ∨ 57344 ≤ n := by omega
  have h0 : n < 55296 ∨ 57344 ≤ n → halfZ n = 0 := by intro h; unfold halfZ; rw [if_neg (by omega), if_neg (by omega)]
  have h1 : 55296 ≤ n ∧ n < 56320 → halfZ n = 1 := by intro h; unfold halfZ; rw [if_pos h]
  have h2 : 56320 ≤ n ∧ n < 57344 → halfZ n = 2 := by intro h; unfold halfZ; rw [if_neg (by omega), if_pos h]
  have H0 := Lib.hid h0
  have H1 := Lib.hid h1
  have H2 := Lib.hid h2
  clear h0 h1 h2
  rcases hc with h | ⟨h, h'⟩ | ⟨h, h'⟩ | h
  all_goals
    go_enter Tryz.func171, Tryz.ntmps171
    go_wp2
    go_ret
  · exact ⟨ret_i64 (H0.out (by omega)).symm, rfl⟩
  · exact ⟨ret_i64 (H1.out (by omega)).symm, rfl⟩
  · exact ⟨ret_i64 (H2.out (by omega)).symm, rfl⟩
  · exact ⟨ret_i64 (H0.out (by omega)).symm, rfl⟩

set_option maxHeartbeats 800000 in
theorem ref_Right (n : Int) (w : World) : Calls Tryz.prog 135 #[.int .i64 n] w fun e w' => e = .returned (.bool (rightB n)) ∧ w = w' := by
  have hd : rightB n = (decide (0 ≤ n) && decide (n < 1114112) && decide (halfZ n = 0)) := rfl
  have HD := Lib.hid hd
  clear hd
  by_cases a1 : 0 ≤ n
  · by_cases a2 : n < 1114112
    · by_cases a3 : halfZ n = 0
      · have e1 : (halfZ n == 0) = true := by rw [beq_iff_eq]; exact a3
        have HR := Lib.hid (show rightB n = true by rw [HD.out, decide_eq_true a1, decide_eq_true a2, decide_eq_true a3]; rfl)
        clear a3
        go_enter Tryz.func135, Tryz.ntmps135
        go_wp2_with fail
        refine (ref_Half n _).mono ?_
        rintro e w1 ⟨rfl, rfl⟩
        go_wp2_with fail
        go_ret
        exact ⟨ret_bool HR.out.symm, rfl⟩
      · have e1 : (halfZ n == 0) = false := by rw [beq_eq_false_iff_ne]; exact a3
        have HR := Lib.hid (show rightB n = false by rw [HD.out, decide_eq_false a3, Bool.and_false])
        clear a3
        go_enter Tryz.func135, Tryz.ntmps135
        go_wp2_with fail
        refine (ref_Half n _).mono ?_
        rintro e w1 ⟨rfl, rfl⟩
        go_wp2_with fail
        go_ret
        exact ⟨ret_bool HR.out.symm, rfl⟩
    · have HR := Lib.hid (show rightB n = false by rw [HD.out, decide_eq_false a2, Bool.and_false, Bool.false_and])
      have a2' : 1114112 ≤ n := by omega
      clear a2
      go_enter Tryz.func135, Tryz.ntmps135
      go_wp2_with fail
      go_ret
      exact ⟨ret_bool HR.out.symm, rfl⟩
  · have HR := Lib.hid (show rightB n = false by rw [HD.out, decide_eq_false a1, Bool.false_and, Bool.false_and])
    have a1' : n < 0 := by omega
    clear a1
    go_enter Tryz.func135, Tryz.ntmps135
    go_wp2_with fail
    go_ret
    exact ⟨ret_bool HR.out.symm, rfl⟩

theorem put1 {n : Nat} (h : n < 128) : putN n = [n] := by unfold putN; rw [if_pos h]
theorem put2 {n : Nat} (h : 128 ≤ n) (h' : n < 2048) : putN n = [192 + n / 64, 128 + n % 64] := by unfold putN; rw [if_neg (by omega), if_pos (by omega)]
theorem put3 {n : Nat} (h : 2048 ≤ n) (h' : n < 65536) : putN n = [224 + n / 4096, 128 + n / 64 % 64, 128 + n % 64] := by unfold putN; rw [if_neg (by omega), if_neg (by omega), if_pos (by omega)]
theorem put4 {n : Nat} (h : 65536 ≤ n) : putN n = [240 + n / 262144, 128 + n / 4096 % 64, 128 + n / 64 % 64, 128 + n % 64] := by unfold putN; rw [if_neg (by omega), if_neg (by omega), if_neg (by omega)]
/-- A character's bytes, as bytes. -/
def putL (n : Nat) : List UInt8 := (putN n).map UInt8.ofNat
def PutPost (n : Nat) (w : World) (e : Ending) (w' : World) : Prop :=
  e = .returned (.slice (some ⟨w.heap.size, 0, none⟩) (putL n).length (putL n).length) ∧ Below w.heap.size w w' ∧ BytesAt w' w.heap.size (putL n) ∧ w'.heap.size = w.heap.size + 1

theorem PutPost.mk' {n : Nat} {w : World} {cs : Array Value} {k : Nat} (hcs : cs = ((putN n).map fun x : Nat => Value.int .u8 (x : Int)).toArray) (hn : n < 1114112) (hk : k = (putN n).length) :
    PutPost n w (.returned (.slice (some ⟨w.heap.size, 0, none⟩) k k)) (w.alloc (.cells cs 5)) := by
  have hl : (putL n).length = (putN n).length := by simp [putL]
  have hb : ∀ x, x ∈ putN n → x < 256 := by
    intro x hx
    unfold putN at hx
    repeat' split at hx
    all_goals simp at hx; omega
  refine ⟨by rw [hk, hl], (Below.refl _ _).alloc (Nat.le_refl _) _, ⟨5, [], 0, 0, .inl (Nat.le_refl _), ?_⟩, by simp⟩
  refine (heap_alloc_new w _).trans ?_
  congr 2
  rw [hcs]
  congr 1
  rw [List.append_nil, putL, List.map_map]
  refine List.map_congr_left fun x hx => ?_
  simp only [Function.comp, byteV]
  rw [UInt8.toNat_ofNat_of_lt' (hb x hx)]

set_option maxHeartbeats 1600000 in
set_option maxRecDepth 100000 in
theorem ref_Put (n : Nat) (hn : n < 1114112) (w : World) : Calls Tryz.prog 136 #[.int .i64 (n : Int)] w (PutPost n w) := by
  have hc : n < 128 ∨ (128 ≤ n ∧ n < 2048) ∨ (2048 ≤ n ∧ n < 65536) ∨ 65536 ≤ n := by omega
  have q2 : (0 : Int) ≤ (n : Int) / 64 % 64 := by omega
  have q3 : (n : Int) / 64 % 64 ≤ 63 := by omega
  have q4 : (0 : Int) ≤ (n : Int) % 64 := by omega
  have q5 : (n : Int) % 64 ≤ 63 := by omega
  have q6 : (0 : Int) ≤ (n : Int) / 64 := by omega
  have q7 : (0 : Int) ≤ (n : Int) / 4096 % 64 := by omega
  have q8 : (n : Int) / 4096 % 64 ≤ 63 := by omega
  have q9 : (0 : Int) ≤ (n : Int) / 4096 := by omega
  have qa : (0 : Int) ≤ (n : Int) / 262144 := by omega
  have qb : (n : Int) / 262144 ≤ 4 := by omega
  rcases hc with h | ⟨h, h'⟩ | ⟨h, h'⟩ | h
  · go_enter Tryz.func136, Tryz.ntmps136
    go_wp2_with fail
    go_ret
    exact PutPost.mk' (by rw [put1 h]; rfl) hn (by rw [put1 h]; rfl)
  · go_enter Tryz.func136, Tryz.ntmps136
    go_wp2_with fail
    go_ret
    exact PutPost.mk' (by rw [put2 h h']; simp) hn (by rw [put2 h h']; rfl)
  · have qc : (n : Int) / 4096 ≤ 15 := by omega
    have d1 : decide ((n : Int) < 128) = false := by simp; omega
    have d2 : decide ((n : Int) < 2048) = false := by simp; omega
    have d3 : decide ((n : Int) < 65536) = true := by simp; omega
    go_enter Tryz.func136, Tryz.ntmps136
    go_wp2_with fail
    go_ret
    exact PutPost.mk' (by rw [put3 h h']; simp) hn (by rw [put3 h h']; rfl)
  · have d1 : decide ((n : Int) < 128) = false := by simp; omega
    have d2 : decide ((n : Int) < 2048) = false := by simp; omega
    have d3 : decide ((n : Int) < 65536) = false := by simp; omega
    go_enter Tryz.func136, Tryz.ntmps136
    go_wp2_with fail
    go_ret
    exact PutPost.mk' (by rw [put4 h]; simp) hn (by rw [put4 h]; rfl)

/-- The number that so many bytes of a text would tell. -/
def guessB (s : ByteArray) (i k : Nat) : Int := guessZ k (byteAt s i).toNat (byteAt s (i + 1)).toNat (byteAt s (i + 2)).toNat (byteAt s (i + 3)).toNat

set_option maxHeartbeats 3200000 in
set_option maxRecDepth 100000 in
theorem ref_guess (s : ByteArray) (i k b off cap : Nat) (w : World) (hk1 : 1 ≤ k) (hk4 : k ≤ 4) (hi : i + k ≤ s.size) (hs : s.size ≤ 140737488351232) (hp : BytesIn w b off s) :
    Calls Tryz.prog 134 #[.slice (some ⟨b, off, none⟩) s.size cap, .int .i64 (i : Int), .int .i64 (k : Int)] w fun e w' => e = .returned (.int .i64 (guessB s i k)) ∧ w = w' := by
  have c0 : w.cell? ⟨b, off + i, none⟩ = some (.int .u8 ((byteAt s i).toNat : Int)) := hp i (by omega)
  have c1 : 2 ≤ k → w.cell? ⟨b, off + (i + 1), none⟩ = some (.int .u8 ((byteAt s (i + 1)).toNat : Int)) := fun _ => hp (i + 1) (by omega)
  have c2 : 3 ≤ k → w.cell? ⟨b, off + (i + 2), none⟩ = some (.int .u8 ((byteAt s (i + 2)).toNat : Int)) := fun _ => hp (i + 2) (by omega)
  have c3 : 4 ≤ k → w.cell? ⟨b, off + (i + 3), none⟩ = some (.int .u8 ((byteAt s (i + 3)).toNat : Int)) := fun _ => hp (i + 3) (by omega)
  have b0 := (byteAt s i).toNat_lt
  have b1 := (byteAt s (i + 1)).toNat_lt
  have b2 := (byteAt s (i + 2)).toNat_lt
  have b3 := (byteAt s (i + 3)).toNat_lt
  have hg : guessB s i k = guessZ k (byteAt s i).toNat (byteAt s (i + 1)).toNat (byteAt s (i + 2)).toNat (byteAt s (i + 3)).toNat := rfl
  generalize (byteAt s i).toNat = x0 at *
  generalize (byteAt s (i + 1)).toNat = x1 at *
  generalize (byteAt s (i + 2)).toNat = x2 at *
  generalize (byteAt s (i + 3)).toNat = x3 at *
  have HG := Lib.hid hg
  clear hg hp
  have hc : k = 1 ∨ k = 2 ∨ k = 3 ∨ k = 4 := by omega
  rcases hc with rfl | rfl | rfl | rfl
  · clear c1 c2 c3
    go_enter Tryz.func134, Tryz.ntmps134
    go_wp2_with fail
    refine wp_loop_rounds 1 ?_
    rw [rounds_succ]
    go_wp2_with fail
    go_ret
    exact ⟨ret_i64 (by rw [HG.out, show ((1 : Nat) : Int) = 1 from rfl, guess1]), rfl⟩
  · have c1 := c1 (by omega)
    clear c2 c3
    go_enter Tryz.func134, Tryz.ntmps134
    go_wp2_with fail
    refine wp_loop_rounds 2 ?_
    rw [rounds_succ]
    go_wp2_with fail
    rw [rounds_succ]
    go_wp2_with fail
    go_ret
    exact ⟨ret_i64 (by rw [HG.out, show ((2 : Nat) : Int) = 2 from rfl, guess2]), rfl⟩
  · have c1 := c1 (by omega)
    have c2 := c2 (by omega)
    clear c3
    go_enter Tryz.func134, Tryz.ntmps134
    go_wp2_with fail
    refine wp_loop_rounds 3 ?_
    rw [rounds_succ]
    go_wp2_with fail
    rw [rounds_succ]
    go_wp2_with fail
    rw [rounds_succ]
    go_wp2_with fail
    go_ret
    exact ⟨ret_i64 (by rw [HG.out, show ((3 : Nat) : Int) = 3 from rfl, guess3]), rfl⟩
  · have c1 := c1 (by omega)
    have c2 := c2 (by omega)
    have c3 := c3 (by omega)
    go_enter Tryz.func134, Tryz.ntmps134
    go_wp2_with fail
    refine wp_loop_rounds 4 ?_
    rw [rounds_succ]
    go_wp2_with fail
    rw [rounds_succ]
    go_wp2_with fail
    rw [rounds_succ]
    go_wp2_with fail
    rw [rounds_succ]
    go_wp2_with fail
    go_ret
    exact ⟨ret_i64 (by rw [HG.out, show ((4 : Nat) : Int) = 4 from rfl, guess4]), rfl⟩
end Go.Proofs.YtibhohpamnpkcaaGreatDoor
