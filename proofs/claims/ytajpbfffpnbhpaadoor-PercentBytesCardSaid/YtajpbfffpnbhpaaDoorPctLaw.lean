/- Plain: what is told of texts that are put together of bytes and escapes. -/
import Derived.Test.YtajpbfffpnbhpaaDoorPctCode
import Derived.Test.YtajpbfffpnbhpaaDoorOfL
import Derived.Test.YtajpbfffpnbhpaaDoorBa
namespace Go.Proofs.YtajpbfffpnbhpaaDoor

theorem numRes_two (h l : UInt8) (c : Nat) (hc : c < 256) (h1 : valN h.toNat = c / 16) (h2 : valN l.toNat = c % 16) : numRes ⟨#[h, l]⟩ 16 255 = (c, 0, 0) := by
  have b0 : byteAt (⟨#[h, l]⟩ : ByteArray) 0 = h := rfl
  have b1 : byteAt (⟨#[h, l]⟩ : ByteArray) 1 = l := rfl
  have hs : (⟨#[h, l]⟩ : ByteArray).size = 2 := rfl
  have hn : numTo 16 ⟨#[h, l]⟩ 2 = c := by
    show ((0 * 16 + valN (byteAt (⟨#[h, l]⟩ : ByteArray) 0).toNat) * 16 + valN (byteAt (⟨#[h, l]⟩ : ByteArray) 1).toNat) = c
    rw [b0, b1, h1, h2]; omega
  have := numRes_good (s := ⟨#[h, l]⟩) (base := 16) (most := 255) (by rw [hs]; omega) (fun j hj => by
    rw [hs] at hj
    have : j = 0 ∨ j = 1 := by omega
    rcases this with rfl | rfl
    · rw [b0, h1]; omega
    · rw [b1, h2]; omega) (by rw [hs, hn]; omega)
  rw [this, hs, hn]

/-- A byte that stays, or an escape; what is told of it. -/
def Piece (x : List UInt8) (y : UInt8 × Bool) : Prop := (∃ c : UInt8, x = [c] ∧ c.toNat ≠ 37 ∧ y = (c, false)) ∨ (∃ h l c : UInt8, x = [37, h, l] ∧ numRes ⟨#[h, l]⟩ 16 255 = (c.toNat, 0, 0) ∧ y = (c, true))

theorem byteAt_list (l : List UInt8) (i : Nat) : byteAt (ofL l) i = l.getD i 0 := rfl
theorem told_at : ∀ (post pre : List (List UInt8 × (UInt8 × Bool))), (∀ p ∈ post, Piece p.1 p.2) → Told (ofL ((pre ++ post).flatMap (·.1))) (pre.map (·.2)) (pre.flatMap (·.1)).length → told (ofL ((pre ++ post).flatMap (·.1))) = ((pre ++ post).map (·.2), none) := by
  intro post
  induction post with
  | nil =>
    intro pre _ h
    rw [List.append_nil] at h ⊢
    exact h.done (by rw [ofL_size]; omega)
  | cons p post ih =>
    intro pre hp h
    have hl : (pre ++ p :: post).flatMap (·.1) = pre.flatMap (·.1) ++ (p.1 ++ post.flatMap (·.1)) := by simp
    have hnext : Told (ofL ((pre ++ p :: post).flatMap (·.1))) ((pre ++ [p]).map (·.2)) ((pre ++ [p]).flatMap (·.1)).length := by
      rcases hp p (by simp) with ⟨c, hx, hc, hy⟩ | ⟨a, b, c, hx, hn, hy⟩
      · have hb : byteAt (ofL ((pre ++ p :: post).flatMap (·.1))) (pre.flatMap (·.1)).length = c := by
          rw [byteAt_list, hl, hx]
          simp [List.getD]
        have := h.plain (by rw [ofL_size, hl, hx]; simp) (by rw [hb]; exact hc)
        rw [hb] at this
        simpa [hx, hy] using this
      · have hb : byteAt (ofL ((pre ++ p :: post).flatMap (·.1))) (pre.flatMap (·.1)).length = 37 := by
          rw [byteAt_list, hl, hx]
          simp [List.getD]
        have he : (ofL ((pre ++ p :: post).flatMap (·.1))).extract ((pre.flatMap (·.1)).length + 1) ((pre.flatMap (·.1)).length + 3) = ⟨#[a, b]⟩ := by
          apply ba_ext
          rw [Lib.extract_data]
          show ((((pre ++ p :: post).flatMap (·.1)).drop _).take _) = [a, b]
          rw [hl, hx, List.drop_append, List.drop_of_length_le (by omega), List.nil_append]
          rw [show (pre.flatMap (·.1)).length + 1 - (pre.flatMap (·.1)).length = 1 by omega, show (pre.flatMap (·.1)).length + 3 - ((pre.flatMap (·.1)).length + 1) = 2 by omega]
          rfl
        have hsz : (pre.flatMap (·.1)).length + 3 ≤ (ofL ((pre ++ p :: post).flatMap (·.1))).size := by rw [ofL_size, hl, hx]; simp
        have hr : escRes (ofL ((pre ++ p :: post).flatMap (·.1))) (pre.flatMap (·.1)).length = (c.toNat, 0, 0) := by unfold escRes; rw [he, hn]
        have ho : escOk (ofL ((pre ++ p :: post).flatMap (·.1))) (pre.flatMap (·.1)).length = true := by
          unfold escOk
          rw [hr, decide_eq_true hsz]; rfl
        have hc : escC (ofL ((pre ++ p :: post).flatMap (·.1))) (pre.flatMap (·.1)).length = c := by
          apply UInt8.toNat_inj.1
          rw [escC_nat ho, hr]
        have := h.esc (by omega) (by rw [hb]; rfl) ho
        rw [hc] at this
        simpa [hx, hy] using this
    have e : pre ++ p :: post = (pre ++ [p]) ++ post := by simp
    rw [e] at hnext ⊢
    exact ih (pre ++ [p]) (fun q hq => hp q (by simp [hq])) hnext
theorem told_pieces (l : List (List UInt8 × (UInt8 × Bool))) (h : ∀ p ∈ l, Piece p.1 p.2) : told (ofL (l.flatMap (·.1))) = (l.map (·.2), none) := by
  have := told_at l [] h (by simpa using Told.zero _)
  simpa using this

theorem escW_is (c : UInt8) : escW c = [37, UInt8.ofNat (figN (c.toNat / 16)), UInt8.ofNat (figN (c.toNat % 16))] := by
  have hb := c.toNat_lt
  have e : c.toNat / 16 % 16 = c.toNat / 16 := Nat.mod_eq_of_lt (by omega)
  unfold escW
  rw [digs, digs, digs, e]
  rfl
theorem piece_esc (c : UInt8) : Piece (escW c) (c, true) := by
  have hb := c.toNat_lt
  refine .inr ⟨_, _, c, escW_is c, numRes_two _ _ c.toNat hb ?_ ?_, rfl⟩
  · exact valN_fig _ (by omega)
  · exact valN_fig _ (by omega)
theorem keepB_ne {keep : ByteArray} {c : UInt8} (h : keepB keep c = true) : c.toNat ≠ 37 := by
  intro e
  unfold keepB unres at h
  rw [e] at h
  simp [unresN] at h
def encL (keep : ByteArray) (l : List UInt8) : List UInt8 := l.flatMap (encC keep)
theorem told_enc (keep : ByteArray) (l : List UInt8) : (told (ofL (encL keep l))).2 = none ∧ bytesT (ofL (encL keep l)) = l := by
  have h := told_pieces (l.map fun c => (encC keep c, (c, !keepB keep c))) (fun p hp => by
    obtain ⟨c, _, rfl⟩ := List.mem_map.1 hp
    show Piece (encC keep c) (c, !keepB keep c)
    unfold encC
    cases hk : keepB keep c with
    | true => rw [if_pos rfl]; exact .inl ⟨c, rfl, keepB_ne hk, rfl⟩
    | false => rw [if_neg (by simp)]; exact piece_esc c)
  have e : (l.map fun c => (encC keep c, (c, !keepB keep c))).flatMap (·.1) = encL keep l := by
    unfold encL; rw [List.flatMap_map]
  rw [e] at h
  unfold bytesT
  rw [h]
  refine ⟨rfl, ?_⟩
  simp [List.map_map, Function.comp_def]

/-- Bytes that aren't escaped are no %. -/
theorem told_plain (s : ByteArray) : ∀ f i, ∀ x ∈ (toldFrom s f i).1, x.2 = false → x.1.toNat ≠ 37 := by
  intro f
  induction f with
  | zero => intro i x h; simp [toldFrom] at h
  | succ f ih =>
    intro i x h hx
    unfold toldFrom at h
    split at h
    · split at h
      · split at h
        · rcases List.mem_cons.1 h with rfl | h
          · cases hx
          · exact ih _ x h hx
        · cases h
      · rename_i hc
        rcases List.mem_cons.1 h with rfl | h
        · exact hc
        · exact ih _ x h hx
    · cases h
def normX (x : UInt8 × Bool) : UInt8 × Bool := (x.1, x.2 && !unres x.1)
theorem normC_X (x : UInt8 × Bool) : normC (normX x) = normC x := by
  obtain ⟨c, b⟩ := x
  unfold normC normX
  cases b <;> cases h : unres c <;> simp [h]
theorem piece_norm (x : UInt8 × Bool) (h : x.2 = false → x.1.toNat ≠ 37) : Piece (normC x) (normX x) := by
  obtain ⟨c, b⟩ := x
  unfold normC normX
  cases b with
  | false => simp only [Bool.false_and]; rw [if_neg (by simp)]; exact .inl ⟨c, rfl, h rfl, rfl⟩
  | true =>
    cases hu : unres c with
    | true =>
      rw [if_neg (by simp [hu])]
      refine .inl ⟨c, rfl, fun e => ?_, by simp [hu]⟩
      unfold unres at hu
      rw [e] at hu
      simp [unresN] at hu
    | false => rw [if_pos (by simp [hu])]; simpa [hu] using piece_esc c
theorem told_norm (s : ByteArray) : told (normS s) = ((told s).1.map normX, none) := by
  have h := told_pieces ((told s).1.map fun x => (normC x, normX x)) (fun p hp => by
    obtain ⟨x, hx, rfl⟩ := List.mem_map.1 hp
    exact piece_norm x (told_plain s s.size 0 x hx))
  have e : ((told s).1.map fun x => (normC x, normX x)).flatMap (·.1) = normL (told s).1 := by
    unfold normL; rw [List.flatMap_map]
  rw [e] at h
  have e2 : ofL (normL (told s).1) = normS s := rfl
  rw [e2] at h
  rw [h]
  simp [List.map_map, Function.comp_def]
theorem norm_norm (s : ByteArray) : normS (normS s) = normS s := by
  have h : normL ((told s).1.map normX) = normL (told s).1 := by
    unfold normL
    rw [List.flatMap_map]
    congr 1
    funext x
    exact normC_X x
  unfold normS at h ⊢
  have := told_norm s
  unfold normS at this
  rw [this, h]
theorem bytes_norm (s : ByteArray) : bytesT (normS s) = bytesT s := by
  unfold bytesT
  rw [told_norm]
  simp [List.map_map, Function.comp_def, normX]
theorem normS_size (s : ByteArray) : (normS s).size ≤ 3 * s.size := by
  have h1 : (normS s).size = (normL (told s).1).length := ofL_size _
  have h2 := normL_len (told s).1
  have h3 : (told s).1.length ≤ s.size := by
    have : ∀ f i, (toldFrom s f i).1.length ≤ f := by
      intro f
      induction f with
      | zero => intro i; simp [toldFrom]
      | succ f ih =>
        intro i
        unfold toldFrom
        repeat' split
        all_goals (simp; try exact ih _)
    exact this s.size 0
  omega
theorem encL_len (keep : ByteArray) (l : List UInt8) : (encL keep l).length ≤ 3 * l.length := by
  induction l with
  | nil => simp [encL]
  | cons c l ih =>
    unfold encL at ih ⊢
    rw [List.flatMap_cons, List.length_append, List.length_cons]
    have : (encC keep c).length ≤ 3 := by
      unfold encC
      split
      · simp
      · rw [escW_len]; exact Nat.le_refl _
    omega

/-- The digit of base 16, small. -/
def lowN (d : Nat) : Nat := if d < 10 then 48 + d else 87 + d
theorem valN_low (d : Nat) (h : d < 16) : valN (UInt8.ofNat (lowN d)).toNat = d := by
  have hl : lowN d < 256 := by unfold lowN; split <;> omega
  rw [UInt8.toNat_ofNat', Nat.mod_eq_of_lt (by exact hl)]
  unfold lowN valN
  by_cases h1 : d < 10
  · rw [if_pos h1, if_pos (by omega)]; omega
  · rw [if_neg h1, if_neg (by omega), if_pos (by omega)]; omega
def lowW (c : UInt8) : List UInt8 := [37, UInt8.ofNat (lowN (c.toNat / 16)), UInt8.ofNat (lowN (c.toNat % 16))]
theorem piece_low (c : UInt8) : Piece (lowW c) (c, true) := by
  have hb := c.toNat_lt
  exact .inr ⟨_, _, c, rfl, numRes_two _ _ c.toNat hb (valN_low _ (by omega)) (valN_low _ (by omega)), rfl⟩
theorem low_norm (l : List UInt8) : (told (ofL (l.flatMap lowW))).2 = none ∧ normS (ofL (l.flatMap lowW)) = ofL (encL ByteArray.empty l) := by
  have h := told_pieces (l.map fun c => (lowW c, (c, true))) (fun p hp => by
    obtain ⟨c, _, rfl⟩ := List.mem_map.1 hp
    exact piece_low c)
  have e : (l.map fun c => (lowW c, (c, true))).flatMap (·.1) = l.flatMap lowW := by rw [List.flatMap_map]
  rw [e] at h
  rw [h]
  refine ⟨rfl, ?_⟩
  unfold normS
  rw [h]
  show ofL (normL _) = _
  congr 1
  unfold normL encL
  rw [List.map_map, List.flatMap_map]
  congr 1
  funext c
  show normC (c, true) = encC _ c
  unfold normC encC keepB
  have hno : hasB ByteArray.empty c = false := rfl
  rw [hno, Bool.and_false, Bool.or_false]
  cases h : unres c <;> simp [h]
end Go.Proofs.YtajpbfffpnbhpaaDoor
