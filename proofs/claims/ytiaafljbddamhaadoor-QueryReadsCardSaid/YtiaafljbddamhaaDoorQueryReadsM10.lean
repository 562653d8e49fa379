/- The reference's Half, Right, Put, guess, of chapter 01. -/
import Derived.Test.YtiaafljbddamhaaDoorQueryReadsM9
import Derived.Test.YtiaafljbddamhaaDoorQueryReadsM8
import Derived.Deep.RegionHeld
import Derived.IntWalk
import Derived.Deep.DeepCutAuto
import Derived.Test.YtiaafljbddamhaaDoorQueryReadsM2

namespace Go.Proofs.YtiaafljbddamhaaDoor
open Go.RowKit

def halfZ (n : Int) : Int := if 55296 ≤ n ∧ n < 56320 then 1 else if 56320 ≤ n ∧ n < 57344 then 2 else 0
def rightB (n : Int) : Bool := decide (0 ≤ n) && decide (n < 1114112) && decide (halfZ n = 0)
theorem rightB_iff (n : Int) : rightB n = true ↔ rightZ n := by
  unfold rightB rightZ halfZ
  simp only [Bool.and_eq_true, decide_eq_true_eq]
  repeat' split
  all_goals omega

set_option maxHeartbeats 800000 in
theorem ref_Half (n : Int) (w : World) : Calls Tryd.prog 178 #[.int .i64 n] w fun e w' => e = .returned (.int .i64 (halfZ n)) ∧ w = w' := by
  have hc : n < 55296 ∨ (55296 ≤ n ∧ n < 56320) ∨ (56320 ≤ n ∧ n < 57344) ∨ 57344 ≤ n := by omega
  have h0 : n < 55296 ∨ 57344 ≤ n → halfZ n = 0 := by intro h; unfold halfZ; rw [if_neg (by omega), if_neg (by omega)]
  have h1 : 55296 ≤ n ∧ n < 56320 → halfZ n = 1 := by intro h; unfold halfZ; rw [if_pos h]
  have h2 : 56320 ≤ n ∧ n < 57344 → halfZ n = 2 := by intro h; unfold halfZ; rw [if_neg (by omega), if_pos h]
  have H0 := Lib.hid h0
  have H1 := Lib.hid h1
  have H2 := Lib.hid h2
  clear h0 h1 h2
  rcases hc with h | ⟨h, h'⟩ | ⟨h, h'⟩ | h
  all_goals
    go_enter Tryd.func178, Tryd.ntmps178
    go_wp2
    go_ret
  · exact ⟨ret_i64 (H0.out (by omega)).symm, rfl⟩
  · exact ⟨ret_i64 (H1.out (by omega)).symm, rfl⟩
  · exact ⟨ret_i64 (H2.out (by omega)).symm, rfl⟩
  · exact ⟨ret_i64 (H0.out (by omega)).symm, rfl⟩

set_option maxHeartbeats 800000 in
theorem ref_Right (n : Int) (w : World) : Calls Tryd.prog 162 #[.int .i64 n] w fun e w' => e = .returned (.bool (rightB n)) ∧ w = w' := by
  have hd : rightB n = (decide (0 ≤ n) && decide (n < 1114112) && decide (halfZ n = 0)) := rfl
  have HD := Lib.hid hd
  clear hd
  by_cases a1 : 0 ≤ n
  · by_cases a2 : n < 1114112
    · by_cases a3 : halfZ n = 0
      · have e1 : (halfZ n == 0) = true := by rw [beq_iff_eq]; exact a3
        have HR := Lib.hid (show rightB n = true by rw [HD.out, decide_eq_true a1, decide_eq_true a2, decide_eq_true a3]; rfl)
        clear a3
        go_enter Tryd.func162, Tryd.ntmps162
        go_wp2_with fail
        refine (ref_Half n _).mono ?_
        rintro e w1 ⟨rfl, rfl⟩
        go_wp2_with fail
        go_ret
        exact ⟨ret_bool HR.out.symm, rfl⟩
      · have e1 : (halfZ n == 0) = false := by rw [beq_eq_false_iff_ne]; exact a3
        have HR := Lib.hid (show rightB n = false by rw [HD.out, decide_eq_false a3, Bool.and_false])
        clear a3
        go_enter Tryd.func162, Tryd.ntmps162
        go_wp2_with fail
        refine (ref_Half n _).mono ?_
        rintro e w1 ⟨rfl, rfl⟩
        go_wp2_with fail
        go_ret
        exact ⟨ret_bool HR.out.symm, rfl⟩
    · have HR := Lib.hid (show rightB n = false by rw [HD.out, decide_eq_false a2, Bool.and_false, Bool.false_and])
      have a2' : 1114112 ≤ n := by omega
      clear a2
      go_enter Tryd.func162, Tryd.ntmps162
      go_wp2_with fail
      go_ret
      exact ⟨ret_bool HR.out.symm, rfl⟩
  · have HR := Lib.hid (show rightB n = false by rw [HD.out, decide_eq_false a1, Bool.false_and, Bool.false_and])
    have a1' : n < 0 := by omega
    clear a1
    go_enter Tryd.func162, Tryd.ntmps162
    go_wp2_with fail
    go_ret
    exact ⟨ret_bool HR.out.symm, rfl⟩

theorem put1 {n : Nat} (h : n < 128) : putN n = [n] := by unfold putN; rw [if_pos h]
theorem put2 {n : Nat} (h : 128 ≤ n) (h' : n < 2048) : putN n = [192 + n / 64, 128 + n % 64] := by unfold putN; rw [if_neg (by omega), if_pos (by omega)]
theorem put3 {n : Nat} (h : 2048 ≤ n) (h' : n < 65536) : putN n = [224 + n / 4096, 128 + n / 64 % 64, 128 + n % 64] := by unfold putN; rw [if_neg (by omega), if_neg (by omega), if_pos (by omega)]
theorem put4 {n : Nat} (h : 65536 ≤ n) : putN n = [240 + n / 262144, 128 + n / 4096 % 64, 128 + n / 64 % 64, 128 + n % 64] := by unfold putN; rw [if_neg (by omega), if_neg (by omega), if_neg (by omega)]
/-- A character's bytes, as bytes. -/
def putL (n : Nat) : List UInt8 := (putN n).map UInt8.ofNat
def PutPost (n : Nat) (w : World) (e : Ending) (w' : World) : Prop :=
  e = .returned (.slice (some ⟨w.heap.size, 0, none⟩) (putL n).length (putL n).length) ∧ Below w.heap.size w w' ∧ BytesAt w' w.heap.size (putL n) ∧ w'.heap.size = w.heap.size + 1

theorem PutPost.mk' {n : Nat} {w : World} {cs : Array Value} {k : Nat} (hcs : cs = ((putN n).map fun x : Nat => Value.int .u8 (x : Int)).toArray) (hn : n < 1114112) (hk : k = (putN n).length) :
    PutPost n w (.returned (.slice (some ⟨w.heap.size, 0, none⟩) k k)) (w.alloc (.cells cs 5)) := by
  have hl : (putL n).length = (putN n).length := by simp [putL]
  have hb : ∀ x, x ∈ putN n → x < 256 := by
    intro x hx
    unfold putN at hx
    repeat' split at hx
    all_goals simp at hx; omega
  refine ⟨by rw [hk, hl], (Below.refl _ _).alloc (Nat.le_refl _) _, ⟨5, [], 0, 0, .inl (Nat.le_refl _), ?_⟩, by simp⟩
  refine (heap_alloc_new w _).trans ?_
  congr 2
  rw [hcs]
  congr 1
  rw [List.append_nil, putL, List.map_map]
  refine List.map_congr_left fun x hx => ?_
  simp only [Function.comp, byteV]
  rw [UInt8.toNat_ofNat_of_lt' (hb x hx)]

set_option maxHeartbeats 1600000 in
set_option maxRecDepth 100000 in
theorem ref_Put (n : Nat) (hn : n < 1114112) (w : World) : Calls Tryd.prog 163 #[.int .i64 (n : Int)] w (PutPost n w) := by
  have hc : n < 128 ∨ (128 ≤ n ∧ n < 2048) ∨ (2048 ≤ n ∧ n < 65536) ∨ 65536 ≤ n := by omega
  have q2 : (0 : Int) ≤ (n : Int) / 64 % 64 := by omega
  have q3 : (n : Int) / 64 % 64 ≤ 63 := by omega
  have q4 : (0 : Int) ≤ (n : Int) % 64 := by omega
  have q5 : (n : Int) % 64 ≤ 63 := by omega
  have q6 : (0 : Int) ≤ (n : Int) / 64 := by omega
  have q7 : (0 : Int) ≤ (n : Int) / 4096 % 64 := by omega
  have q8 : (n : Int) / 4096 % 64 ≤ 63 := by omega
  have q9 : (0 : Int) ≤ (n : Int) / 4096 := by omega
  have qa : (0 : Int) ≤ (n : Int) / 262144 := by omega
  have qb : (n : Int) / 262144 ≤ 4 := by omega
  rcases hc with h | ⟨h, h'⟩ | ⟨h, h'⟩ | h
  · go_enter Tryd.func163, Tryd.ntmps163
    go_wp2_with fail
    go_ret
    exact PutPost.mk' (by rw [put1 h]; rfl) hn (by rw [put1 h]; rfl)
  · go_enter Tryd.func163, Tryd.ntmps163
    go_wp2_with fail
    go_ret
    exact PutPost.mk' (by rw [put2 h h']; simp) hn (by rw [put2 h h']; rfl)
  · have qc : (n : Int) / 4096 ≤ 15 := by omega
    have d1 : decide ((n : Int) < 128) = false := by simp; omega
    have d2 : decide ((n : Int) < 2048) = false := by simp; omega
    have d3 : decide ((n : Int) < 65536) = true := by simp; omega
    go_enter Tryd.func163, Tryd.ntmps163
    go_wp2_with fail
    go_ret
    exact PutPost.mk' (by rw [put3 h h']; simp) hn (by rw [put3 h h']; rfl)
  · have d1 : decide ((n : Int) < 128) = false := by simp; omega
    have d2 : decide ((n : Int) < 2048) = false := by simp; omega
    have d3 : decide ((n : Int) < 65536) = false := by simp; omega
    go_enter Tryd.func163, Tryd.ntmps163
    go_wp2_with fail
    go_ret
    exact PutPost.mk' (by rw [put4 h]; simp) hn (by rw [put4 h]; rfl)

/-- The number that so many bytes of a text would tell. -/
def guessB (s : ByteArray) (i k : Nat) : Int := guessZ k (byteAt s i).toNat (byteAt s (i + 1)).toNat (byteAt s (i + 2)).toNat (byteAt s (i + 3)).toNat

set_option maxHeartbeats 3200000 in
set_option maxRecDepth 100000 in
theorem ref_guess (s : ByteArray) (i k b off cap : Nat) (w : World) (hk1 : 1 ≤ k) (hk4 : k ≤ 4) (hi : i + k ≤ s.size) (hs : s.size ≤ 140737488351232) (hp : BytesIn w b off s) :
    Calls Tryd.prog 161 #[.slice (some ⟨b, off, none⟩) s.size cap, .int .i64 (i : Int), .int .i64 (k : Int)] w fun e w' => e = .returned (.int .i64 (guessB s i k)) ∧ w = w' := by
  have c0 : w.cell? ⟨b, off + i, none⟩ = some (.int .u8 ((byteAt s i).toNat : Int)) := hp i (by omega)
  have c1 : 2 ≤ k → w.cell? ⟨b, off + (i + 1), none⟩ = some (.int .u8 ((byteAt s (i + 1)).toNat : Int)) := fun _ => hp (i + 1) (by omega)
  have c2 : 3 ≤ k → w.cell? ⟨b, off + (i + 2), none⟩ = some (.int .u8 ((byteAt s (i + 2)).toNat : Int)) := fun _ => hp (i + 2) (by omega)
  have c3 : 4 ≤ k → w.cell? ⟨b, off + (i + 3), none⟩ = some (.int .u8 ((byteAt s (i + 3)).toNat : Int)) := fun _ => hp (i + 3) (by omega)
  have b0 := (byteAt s i).toNat_lt
  have b1 := (byteAt s (i + 1)).toNat_lt
  have b2 := (byteAt s (i + 2)).toNat_lt
  have b3 := (byteAt s (i + 3)).toNat_lt
  have hg : guessB s i k = guessZ k (byteAt s i).toNat (byteAt s (i + 1)).toNat (byteAt s (i + 2)).toNat (byteAt s (i + 3)).toNat := rfl
  generalize (byteAt s i).toNat = x0 at *
  generalize (byteAt s (i + 1)).toNat = x1 at *
  generalize (byteAt s (i + 2)).toNat = x2 at *
  generalize (byteAt s (i + 3)).toNat = x3 at *
  have HG := Lib.hid hg
  clear hg hp
  have hc : k = 1 ∨ k = 2 ∨ k = 3 ∨ k = 4 := by omega
  rcases hc with rfl | rfl | rfl | rfl
  · clear c1 c2 c3
    go_enter Tryd.func161, Tryd.ntmps161
    go_wp2_with fail
    refine wp_loop_rounds 1 ?_
    rw [rounds_succ]
    go_wp2_with fail
    go_ret
    exact ⟨ret_i64 (by rw [HG.out, show ((1 : Nat) : Int) = 1 from rfl, guess1]), rfl⟩
  · have c1 := c1 (by omega)
    clear c2 c3
    go_enter Tryd.func161, Tryd.ntmps161
    go_wp2_with fail
    refine wp_loop_rounds 2 ?_
    rw [rounds_succ]
    go_wp2_with fail
    rw [rounds_succ]
    go_wp2_with fail
    go_ret
    exact ⟨ret_i64 (by rw [HG.out, show ((2 : Nat) : Int) = 2 from rfl, guess2]), rfl⟩
  · have c1 := c1 (by omega)
    have c2 := c2 (by omega)
    clear c3
    go_enter Tryd.func161, Tryd.ntmps161
    go_wp2_with fail
    refine wp_loop_rounds 3 ?_
    rw [rounds_succ]
    go_wp2_with fail
    rw [rounds_succ]
    go_wp2_with fail
    rw [rounds_succ]
    go_wp2_with fail
    go_ret
    exact ⟨ret_i64 (by rw [HG.out, show ((3 : Nat) : Int) = 3 from rfl, guess3]), rfl⟩
  · have c1 := c1 (by omega)
    have c2 := c2 (by omega)
    have c3 := c3 (by omega)
    go_enter Tryd.func161, Tryd.ntmps161
    go_wp2_with fail
    refine wp_loop_rounds 4 ?_
    rw [rounds_succ]
    go_wp2_with fail
    rw [rounds_succ]
    go_wp2_with fail
    rw [rounds_succ]
    go_wp2_with fail
    rw [rounds_succ]
    go_wp2_with fail
    go_ret
    exact ⟨ret_i64 (by rw [HG.out, show ((4 : Nat) : Int) = 4 from rfl, guess4]), rfl⟩
end Go.Proofs.YtiaafljbddamhaaDoor

/- Plain facts: the first size whose character's bytes stand there is the decoder's; where there is none the decoder finds none. -/
namespace Go.Proofs.YtiaafljbddamhaaDoor

/-- So many bytes are those of the character that they would tell. -/
def hitB (s : ByteArray) (i k : Nat) : Prop := rightB (guessB s i k) = true ∧ (⟨(putL (guessB s i k).toNat).toArray⟩ : ByteArray) = s.extract i (i + k)

theorem putL_nat {n : Nat} (hn : n < 1114112) : (putL n).map UInt8.toNat = putN n := by
  have hb : ∀ x, x ∈ putN n → x < 256 := by
    intro x hx
    unfold putN at hx
    repeat' split at hx
    all_goals simp at hx; omega
  unfold putL
  rw [List.map_map]
  conv => rhs; rw [← List.map_id (putN n)]
  refine List.map_congr_left fun x hx => ?_
  simp only [Function.comp, id]
  exact UInt8.toNat_ofNat_of_lt' (hb x hx)

theorem part_nat (s : ByteArray) (i k : Nat) (hk1 : 1 ≤ k) (hk4 : k ≤ 4) (hik : i + k ≤ s.size) : ((s.data.toList.drop i).take k).map UInt8.toNat = firstN k (byteAt s i).toNat (byteAt s (i + 1)).toNat (byteAt s (i + 2)).toNat (byteAt s (i + 3)).toNat := by
  have hl : s.data.toList.length = s.size := rfl
  have hc : k = 1 ∨ k = 2 ∨ k = 3 ∨ k = 4 := by omega
  apply List.ext_getElem?
  intro j
  unfold firstN byteAt
  simp only [List.getElem?_map, List.getElem?_take, List.getElem?_drop]
  by_cases hj : j < k
  · have hjs : i + j < s.data.toList.length := by omega
    rw [if_pos hj, if_pos hj, List.getElem?_eq_getElem hjs]
    have hj4 : j = 0 ∨ j = 1 ∨ j = 2 ∨ j = 3 := by omega
    rcases hj4 with rfl | rfl | rfl | rfl
    · simp [List.getD, hl, show i < s.size by omega]
    · simp [List.getD, hl, show i + 1 < s.size by omega]
    · simp [List.getD, hl, show i + 2 < s.size by omega]
    · simp [List.getD, hl, show i + 3 < s.size by omega]
  · rw [if_neg hj, if_neg hj]; rfl

theorem extract_list (s : ByteArray) (i k : Nat) : (s.extract i (i + k)).data.toList = (s.data.toList.drop i).take k := by
  rw [Lib.extract_eq, Nat.add_sub_cancel_left]

theorem hitB_iff (s : ByteArray) (i k : Nat) (hk1 : 1 ≤ k) (hk4 : k ≤ 4) (hik : i + k ≤ s.size) :
    hitB s i k ↔ rightZ (guessB s i k) ∧ putN (guessB s i k).toNat = firstN k (byteAt s i).toNat (byteAt s (i + 1)).toNat (byteAt s (i + 2)).toNat (byteAt s (i + 3)).toNat := by
  unfold hitB
  rw [rightB_iff]
  refine and_congr_right fun hr => ?_
  have hr' := hr
  unfold rightZ at hr'
  have hn : (guessB s i k).toNat < 1114112 := by omega
  rw [← putL_nat hn, ← part_nat s i k hk1 hk4 hik, ← extract_list]
  constructor
  · intro h; rw [← h]
  · intro h
    apply ByteArray.ext
    apply Array.ext'
    have hid : ∀ l : List UInt8, (l.map UInt8.toNat).map UInt8.ofNat = l := fun l => by
      rw [List.map_map]
      conv => rhs; rw [← List.map_id l]
      exact List.map_congr_left fun x _ => by simp
    have := congrArg (List.map UInt8.ofNat) h
    rw [hid, hid] at this
    exact this

theorem hitB_dec {s : ByteArray} {i k : Nat} (hk1 : 1 ≤ k) (hk4 : k ≤ 4) (hik : i + k ≤ s.size) (h : hitB s i k) : okB s i = true ∧ decB s i = ((guessB s i k).toNat, k) := by
  obtain ⟨hr, hp⟩ := (hitB_iff s i k hk1 hk4 hik).1 h
  obtain ⟨e, ne⟩ := hit_dec (n := s.size - i) hk1 hk4 (by omega) (byteAt s i).toNat_lt (byteAt s (i + 1)).toNat_lt (byteAt s (i + 2)).toNat_lt (byteAt s (i + 3)).toNat_lt hr hp
  have e' : decB s i = ((guessB s i k).toNat, k) := e
  refine ⟨?_, e'⟩
  unfold okB
  rw [e']
  exact decide_eq_true ne

theorem no_hit {s : ByteArray} {i : Nat} (hi : i < s.size) (h : ∀ m, 1 ≤ m → m ≤ 4 → i + m ≤ s.size → ¬ hitB s i m) : okB s i = false := by
  refine decide_eq_false fun ho => ?_
  obtain ⟨k, hk1, hk4, hkn, hr, hp⟩ := dec_hit (n := s.size - i) (by omega) (byteAt s i).toNat_lt (byteAt s (i + 1)).toNat_lt (byteAt s (i + 2)).toNat_lt (byteAt s (i + 3)).toNat_lt ho
  exact h k hk1 hk4 (by omega) ((hitB_iff s i k hk1 hk4 (by omega)).2 ⟨hr, hp⟩)

/-- The reference's answer: the character, and how many bytes it has; 0, 0: none. -/
def refC (s : ByteArray) (i : Nat) : Nat := if okB s i then (decB s i).1 else 0
def refN (s : ByteArray) (i : Nat) : Nat := if okB s i then (decB s i).2 else 0
theorem ref_yes {s : ByteArray} {i c n : Nat} (h : okB s i = true ∧ decB s i = (c, n)) : c = refC s i ∧ n = refN s i := by
  unfold refC refN
  rw [if_pos h.1, if_pos h.1, h.2]
  exact ⟨rfl, rfl⟩
theorem ref_no {s : ByteArray} {i : Nat} (h : okB s i = false) : 0 = refC s i ∧ 0 = refN s i := by
  unfold refC refN
  rw [h]
  exact ⟨rfl, rfl⟩
theorem ret_next {s : ByteArray} {i c n : Nat} (h : c = refC s i ∧ n = refN s i) :
    Ending.returned (.tuple #[.int .i64 (c : Int), .int .i64 (n : Int)]) = .returned (.tuple #[.int .i64 (refC s i : Int), .int .i64 (refN s i : Int)]) := by rw [h.1, h.2]
theorem ret_next0 {s : ByteArray} {i : Nat} (h : 0 = refC s i ∧ 0 = refN s i) :
    Ending.returned (.tuple #[.int .i64 0, .int .i64 0]) = .returned (.tuple #[.int .i64 (refC s i : Int), .int .i64 (refN s i : Int)]) := by rw [← h.1, ← h.2]; rfl
end Go.Proofs.YtiaafljbddamhaaDoor

/- The reference's Next of chapter 01. -/
namespace Go.Proofs.YtiaafljbddamhaaDoor
open Go.RowKit

theorem bytes_cut (w : World) (b off i k cap : Nat) (s : ByteArray) (hi : i + k ≤ s.size) (hp : BytesIn w b off s) :
    (convert 35 9 (.slice (some ⟨b, off + i, none⟩) k cap)).run Tryd.prog w = .ok (.string (s.extract i (i + k))) w := by
  have hl : s.data.toList.length = s.size := rfl
  have h := run_convert_bytes_back (P := Tryd.prog) w 35 9 5 ⟨b, off + i, none⟩ cap ((s.data.toList.drop i).take k) Tryd.underlying35 Tryd.underlying5 Tryd.underlying9 (fun j hj => by
    have hj' : j < k := by simp [hl] at hj; omega
    have := hp (i + j) (by omega)
    rw [Addr.add_lit, Nat.add_assoc, this]
    have hlt : i + j < s.data.toList.length := by omega
    simp only [byteAt, List.getD, List.getElem_take, List.getElem_drop]
    rw [List.getElem?_eq_getElem hlt]; rfl)
  have hlen : ((s.data.toList.drop i).take k).length = k := by simp [hl]; omega
  rw [hlen] at h
  rw [h, Lib.extract_eq, Nat.add_sub_cancel_left]

def SNext (b off : Nat) (s : ByteArray) (W : World) : Prop := BytesIn W b off s

theorem SNext.put {b off : Nat} {s : ByteArray} {W w2 : World} (h : SNext b off s W) (hb : b < W.heap.size) (h2 : Below W.drew.heap.size W.drew w2) : SNext b off s w2 :=
  BytesIn.below (B := W.heap.size) (w := W) h (((Below.refl W.heap.size W).drew).trans h2) hb

set_option maxHeartbeats 3200000 in
set_option maxRecDepth 100000 in
theorem ref_Next (s : ByteArray) (i b off cap : Nat) (w : World) (hi : i < s.size) (hs : s.size ≤ 16777216) (hc : s.size ≤ cap) (hcap : cap ≤ 9223372036854775807) (hbs : b < w.heap.size) (hp : BytesIn w b off s) :
    Calls Tryd.prog 140 #[.slice (some ⟨b, off, none⟩) s.size cap, .int .i64 (i : Int)] w fun e w' => e = .returned (.tuple #[.int .i64 (refC s i : Int), .int .i64 (refN s i : Int)]) ∧ Below w.heap.size w w' := by
  go_enter Tryd.func140, Tryd.ntmps140
  go_wp2_with fail
  go_loopw [6] (fun k wr => ∃ j : Nat, 1 ≤ j ∧ j ≤ 5 ∧ k = .int .i64 j ∧ (∀ m, 1 ≤ m → m < j → i + m ≤ s.size → ¬ hitB s i m) ∧ Below w.heap.size w wr)
    (fun k _ => 6 - (intOf k).toNat)
  case atStart => exact ⟨1, by omega, by omega, rfl, fun m _ _ => by omega, Below.refl _ _⟩
  case round =>
    obtain ⟨k, hk1, hk5, rfl, hall, hbr⟩ := hrel
    have HA := Lib.hid hall
    clear hall
    by_cases hk4 : k ≤ 4 ∧ i + k ≤ s.size
    · obtain ⟨hk4, hik⟩ := hk4
      have hcx := bytes_cut wr b off i k (cap - i) s hik (hp.below hbr hbs)
      have t1 : (k : Int) ≤ 4 := by omega
      have t2 : (i : Int) + (k : Int) ≤ (s.size : Int) := by omega
      go_wp2_with fail
      refine (ref_guess s i k b off cap _ hk1 hk4 hik (by omega) (hp.below hbr hbs)).mono ?_
      rintro e w2 ⟨rfl, rfl⟩
      generalize hg : guessB s i k = g at *
      have HG := Lib.hid hg
      clear hg
      by_cases hr : rightB g = true
      · have cR : ∀ W : World, Calls Tryd.prog 162 #[.int .i64 g] W fun e w' => e = .returned (.bool true) ∧ W = w' := fun W => (ref_Right g W).mono fun _ _ ⟨a, b⟩ => ⟨by rw [a, hr], b⟩
        have CR := Lib.hid cR
        clear cR
        have hrz := (rightB_iff g).1 hr
        unfold rightZ at hrz
        obtain ⟨hz0, hz1, _⟩ := hrz
        obtain ⟨n, rfl⟩ := Int.eq_ofNat_of_zero_le hz0
        have cP : ∀ W : World, Calls Tryd.prog 163 #[.int .i64 (n : Int)] W fun e w' =>
            ∃ g, e = .returned (.slice (some ⟨g, 0, none⟩) (putL n).length (putL n).length) ∧ Below W.heap.size W w' ∧ (convert 35 9 (.slice (some ⟨g, 0, none⟩) (putL n).length (putL n).length)).run Tryd.prog w' = .ok (.string ⟨(putL n).toArray⟩) w' :=
          fun W => (ref_Put n (by omega) W).mono fun e w' ⟨h1, h2, h3, _⟩ => ⟨_, h1, h2, run_back w' _ _ 5 _ _ _ Tryd.underlying35 Tryd.underlying5 Tryd.underlying9 h3⟩
        have CP := Lib.hid cP
        clear cP
        have HC : ∀ W : World, BytesIn W b off s → (convert 35 9 (.slice (some ⟨b, off + i, none⟩) k (cap - i))).run Tryd.prog W = .ok (.string (s.extract i (i + k))) W := fun W hW => bytes_cut W b off i k (cap - i) s hik hW
        have HD := Lib.hid HC
        clear HC
        have hpr := hp.below hbr hbs
        have hbsr : b < wr.heap.size := Nat.lt_of_lt_of_le hbs hbr.size
        go_upto_region 5 with (fail)
        generalize hps : (⟨(putL n).toArray⟩ : ByteArray) = ps at *
        generalize hxs : s.extract i (i + k) = xs at *
        generalize (putL n).length = ln at *
        have HP := Lib.hid (And.intro hps hxs)
        clear hps hxs
        have z1 : IntKind.i64.wrap ((i : Int) + (k : Int)) = (i : Int) + (k : Int) := IntWalk.i64_in _ (by omega)
        have z2 : (0 : Int) ≤ (i : Int) + (k : Int) := by omega
        have z3 : ((i : Int) + (k : Int)).toNat = i + k := by omega
        have z4 : i + k - i = k := by omega
        have z5 : (0 : Int) ≤ (i : Int) := by omega
        have z6 : (i : Int) ≤ (i : Int) + (k : Int) := by omega
        have z7 : (i : Int) + (k : Int) ≤ (cap : Int) := by omega
        have z8 : ¬ cap = i := by omega
        go_cut [38] (fun c wx => c = .bool (ps.toList == xs.toList) ∧ Below wr.heap.size wr wx)
        case first =>
          have hS0 : SNext b off s wr := hpr
          have hS1 : SNext b off s wr.drew := hpr
          have hcd := HD.out wr.drew hpr
          go_region_held (SNext b off s) (first | exact hp2 | exact hS1)
            (first
            | (go_at_call 162; refine (CR.out _).mono ?_; rintro e w' ⟨rfl, rfl⟩)
            | (go_at_call 163; refine (CP.out _).mono ?_; rintro e w2 ⟨g, rfl, hb2, hB2⟩; have hp2 := hS0.put hbsr hb2; have hc2 := HD.out w2 hp2; have hbw2 := ((Below.refl wr.heap.size wr).drew).trans hb2; clear hb2; dsimp only))
          all_goals clear z1 z2 z3 z4 z5 z6 z7 z8
          all_goals (go_wp2_with fail; go_meet; exact ⟨rfl, hbw2⟩)
        case rest =>
          obtain ⟨rfl, hbx⟩ := hcut
          have hbx := Bt hbr hbx
          clear z1 z2 z3 z4 z5 z6 z7 z8 CP CR HD hcx hpr hbsr
          by_cases hh : ps = xs
          · have hl : (ps.toList == xs.toList) = true := by rw [hh]; exact beq_self_eq_true _
            have hd := hitB_dec (s := s) (i := i) hk1 hk4 hik ⟨by rw [HG.out]; exact hr, by rw [HG.out, Int.toNat_natCast, HP.out.1, HP.out.2, hh]⟩
            rw [HG.out, Int.toNat_natCast] at hd
            have HD := Lib.hid (ref_yes hd)
            clear hd hr
            rw [hl]
            clear hl hh HP HG hp hbs t1 t2 HA
            go_wp2_with fail
            go_ret2
            exact ⟨ret_next HD.out, hbx⟩
          · have hl : (ps.toList == xs.toList) = false := by
              rw [beq_eq_false_iff_ne]
              intro e
              rw [ByteArray.toList_eq, ByteArray.toList_eq] at e
              exact hh (ByteArray.ext (Array.ext' e))
            have hno : ¬ hitB s i k := fun ⟨_, e⟩ => hh (by rw [HG.out, Int.toNat_natCast, HP.out.1, HP.out.2] at e; exact e)
            have hall : ∀ m, 1 ≤ m → m < k + 1 → i + m ≤ s.size → ¬ hitB s i m := fun m h1 h2 h3 => by
              by_cases hmk : m = k
              · rw [hmk]; exact hno
              · exact HA.out m h1 (by omega) h3
            have HALL := Lib.hid hall
            clear hall hno hr hh
            rw [hl]
            clear hl
            go_wp2_with fail
            go_roundw
            case rel => exact ⟨k + 1, by omega, by omega, by go_num, HALL.out, hbx⟩
            case measure => simp [intOf]; omega
      · have hr : rightB g = false := by simpa using hr
        have cR : ∀ W : World, Calls Tryd.prog 162 #[.int .i64 g] W fun e w' => e = .returned (.bool false) ∧ W = w' := fun W => (ref_Right g W).mono fun _ _ ⟨a, b⟩ => ⟨by rw [a, hr], b⟩
        have hno : ¬ hitB s i k := fun ⟨e, _⟩ => by rw [HG.out, hr] at e; cases e
        have hall : ∀ m, 1 ≤ m → m < k + 1 → i + m ≤ s.size → ¬ hitB s i m := fun m h1 h2 h3 => by
          by_cases hmk : m = k
          · rw [hmk]; exact hno
          · exact HA.out m h1 (by omega) h3
        have HALL := Lib.hid hall
        have CR := Lib.hid cR
        clear hall hno hr cR hcx
        go_upto_region 5 with (fail)
        go_cut [38] (fun c wx => c = .bool false ∧ Below wr.heap.size wr wx)
        case first =>
          go_quiet ((go_at_call 162; exact Calls.quiet_of_same ((CR.out _).mono fun _ _ ⟨a, b⟩ => ⟨a, b.symm⟩)))
          go_wp2_with fail
          go_meet
          exact ⟨rfl, below_drewN (Below.refl _ _) _⟩
        case rest =>
          obtain ⟨rfl, hbx⟩ := hcut
          have hbx := Bt hbr hbx
          go_wp2_with fail
          go_roundw
          case rel => exact ⟨k + 1, by omega, by omega, by go_num, HALL.out, hbx⟩
          case measure => simp [intOf]; omega
    · have hno : okB s i = false := no_hit hi fun m h1 h2 h3 => HA.out m h1 (by omega) h3
      have HN := Lib.hid (ref_no hno)
      clear hno
      have hk' : 5 ≤ k ∨ (k ≤ 4 ∧ s.size < i + k) := by omega
      clear hk4
      rcases hk' with h | ⟨h, h'⟩
      all_goals
        go_wp2_with fail
        go_ret2
        exact ⟨ret_next0 HN.out, hbr⟩
end Go.Proofs.YtiaafljbddamhaaDoor

/- The reference's Text and Chars of chapter 01. -/
namespace Go.Proofs.YtiaafljbddamhaaDoor
open Go.RowKit


def RCharsPost (s : ByteArray) (w : World) (e : Ending) (w' : World) : Prop :=
  Below w.heap.size w w' ∧ (((chrs s).2 = none ∧ ∃ v, e = .returned (.tuple #[v, .int .i64 (-1)]) ∧ w'.ownsRow w.heap.size 3 1 v (chrs s).1.length ((chrs s).1.map intV)) ∨
    (∃ i : Nat, (chrs s).2 = some i ∧ ∃ a, e = .returned (.tuple #[.slice a 0 0, .int .i64 (i : Int)])))

theorem own_empty (w : World) (base : Nat) (hb : base ≤ w.heap.size) : (w.alloc (.cells #[] 3)).ownsRow base 3 1 (.slice (some ⟨w.heap.size, 0, none⟩) 0 0) 0 (([] : List Nat).map intV) :=
  World.ownsRow_lit w #[] 0 hb (Nat.zero_le _) rfl

set_option maxHeartbeats 1600000 in
set_option maxRecDepth 100000 in
theorem ref_Chars (v : Value) (s : ByteArray) (w : World) (hs : s.size ≤ 16777216) (hv : BytesSl w v s) :
    Calls Tryd.prog 101 #[v] w (RCharsPost s w) := by
  rcases hv with ⟨h0, a, cap, rfl⟩ | ⟨b, off, cap, rfl, hc, hcm, hbs, hp⟩
  · have hz := Lib.hid ((Reach.zero s).done (by omega))
    clear h0
    go_enter Tryd.func101, Tryd.ntmps101
    go_wp2_with fail
    refine wp_loop_rounds 1 ?_
    rw [rounds_succ]
    go_wp2_with fail
    go_ret2
    exact ⟨(Below.refl _ _).alloc (Nat.le_refl _) _, .inl ⟨by rw [hz.out], _, rfl, by rw [hz.out]; exact own_empty w _ (Nat.le_refl _)⟩⟩
  · obtain ⟨i0, hi, hz0, hz1, hz2⟩ := info_parts info_int
    unfold maxLen at hcm
    go_enter Tryd.func101, Tryd.ntmps101
    go_wp2_with fail
    go_loopw [4, 5] (fun v a wr => ∃ (i : Nat) (l : List Nat), i ≤ s.size ∧ a = .int .i64 i ∧ Reach s l i ∧ wr.ownsRow w.heap.size 3 1 v l.length (l.map intV) ∧ Below w.heap.size w wr)
      (fun _ a _ => s.size - (intOf a).toNat)
    case atStart => exact ⟨0, [], Nat.zero_le _, rfl, Reach.zero s, own_empty w _ (Nat.le_refl _), (Below.refl _ _).alloc (Nat.le_refl _) _⟩
    case round =>
      obtain ⟨i, l, hil, rfl, hr, hown, hbr⟩ := hrel
      have hll : l.length ≤ i := by obtain ⟨_, _, h, _⟩ := hr; exact h
      have HR := Lib.hid hr
      clear hr
      by_cases hlt : i < s.size
      · obtain ⟨hd1, hd2, hd3, hd4⟩ := decB_bounds s i hlt
        clear hd4
        go_wp2_with fail
        refine (ref_Next s i b off cap _ hlt hs hc hcm (Nat.lt_of_lt_of_le hbs hbr.size) (hp.below hbr hbs)).mono ?_
        rintro e w2 ⟨rfl, hb2⟩
        have hown2 := ownsRow_below hown hb2
        have hbr2 := Bt hbr hb2
        clear hown hbr hb2
        by_cases hok : okB s i = true
        · have hst := HR.out.step hlt hok
          have hrr : (decB s i).1 = refC s i ∧ (decB s i).2 = refN s i := ref_yes ⟨hok, rfl⟩
          rw [← hrr.1, ← hrr.2]
          clear hrr
          generalize (decB s i).1 = c at *
          generalize (decB s i).2 = n at *
          have HST := Lib.hid hst
          have e0 : ((n : Int) == 0) = false := by rw [beq_eq_false_iff_ne]; omega
          clear hst hok
          go_wp2_with (at_builtin; refine wpList_append_own _ rfl _ _ 41 rfl w.heap.size 3 i0 (.int .i64 0) 1 8 Tryd.underlying41 hi hz0 hz1 hz2 rfl (by decide) _ _ _ rfl (hown2.alloc _) ⟨w2.heap.size, 0, none⟩ 1 1 [intV c] rfl rfl ?c1 ?c2 ?c3 ?c4 ?c5 ?_)
          case c1 =>
            intro j u hj
            match j, hj with
            | 0, hj => simp at hj; subst hj; simp [Addr.add, intV]
          case c2 => intro u hu; simp at hu; subst hu; rfl
          case c3 => unfold maxLen; omega
          case c4 => omega
          case c5 => have := hbr2.size; simp; omega
          intro v1 w3 hown3 hg3 _
          have hbr3 := below_app hbr2 hown2 (Nat.le_refl _) hg3
          clear hg3 hown2 hbr2
          go_wp2_with fail
          go_roundw
          case rel => exact ⟨i + n, l ++ [c], by omega, by go_num, HST.out, by simpa using hown3, hbr3⟩
          case measure => simp [intOf]; omega
        · have hok : okB s i = false := by simpa using hok
          have hb := Lib.hid (HR.out.bad hlt hok)
          have hrr := ref_no hok
          rw [← hrr.1, ← hrr.2]
          clear hrr hok
          go_wp2_with fail
          go_ret2
          exact ⟨hbr2.alloc hbr2.size _, .inr ⟨i, by rw [hb.out], _, rfl⟩⟩
      · have hb := Lib.hid (HR.out.done hlt)
        obtain rfl : i = s.size := by omega
        go_wp2_with fail
        go_ret2
        exact ⟨hbr, .inl ⟨by rw [hb.out], _, rfl, by rw [hb.out]; exact hown⟩⟩
end Go.Proofs.YtiaafljbddamhaaDoor
