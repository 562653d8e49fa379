/- The walk of PercentNormal. -/
import Derived.Test.YtajpbfffpnbhpaaDoorPctEnc
import Derived.Test.YtajpbfffpnbhpaaDoorReadsWalk
import Derived.Test.YtajpbfffpnbhpaaDoorRowed
import Derived.BigQuiet
namespace Go.Proofs.YtajpbfffpnbhpaaDoor
open Go.RowKit

theorem normal_long (s : ByteArray) (a : Option Addr) (len cap : Nat) (k : ByteArray) (w : World) (hg : Handle w) (h : 2000 < s.size ∨ (s.size ≤ 2000 ∧ 1000 < len) ∨ (s.size ≤ 2000 ∧ len ≤ 1000 ∧ 300 < k.size)) : Calls Tryd.prog 5 #[.string s, .slice a len cap, .string k] w fun e w' => e = .returned (.bool true) ∧ Below w.heap.size w w' := by
  rcases h with h | ⟨h, h'⟩ | ⟨h, h', h''⟩
  all_goals
    go_enter Tryd.func5, Tryd.ntmps5
    go_wp2_with fail
    refine (speaks03 _ hg).mono ?_
    rintro e w1 ⟨rfl, hb1⟩
    go_wp2_with fail
    go_ret
    exact ⟨rfl, hb1⟩

/-- The bytes from 0 on, all escaped with small digits. -/
def escTo (s : ByteArray) (i : Nat) : List UInt8 := (s.data.toList.take i).flatMap lowW
theorem escTo_succ {s : ByteArray} {i : Nat} (h : i < s.size) : escTo s (i + 1) = escTo s i ++ lowW (byteAt s i) := by
  have e : s.data.toList.take (i + 1) = s.data.toList.take i ++ [byteAt s i] := by
    rw [List.take_add_one, List.getElem?_eq_getElem h]
    congr 1
    unfold byteAt
    simp [List.getD, h]
  unfold escTo
  rw [e, List.flatMap_append]
  simp
theorem escTo_len (s : ByteArray) (i : Nat) : (escTo s i).length ≤ 3 * i := by
  have : ∀ l : List UInt8, (l.flatMap lowW).length = 3 * l.length := by
    intro l
    induction l with
    | nil => rfl
    | cons c l ih => rw [List.flatMap_cons, List.length_append, ih, List.length_cons]; simp [lowW]; omega
  unfold escTo
  rw [this, List.length_take]
  omega
theorem escTo_all (s : ByteArray) : escTo s s.size = s.data.toList.flatMap lowW := by
  unfold escTo
  rw [show s.size = s.data.toList.length from rfl, List.take_length]
theorem low_index (d : Nat) (h : d < 16) (x : Int) (hx : x = (d : Int)) (W : World) : (Instr.index 9 (.string ⟨#[48, 49, 50, 51, 52, 53, 54, 55, 56, 57, 97, 98, 99, 100, 101, 102]⟩) (.int .u8 x)).run Tryd.prog W = .ok (.int .u8 (lowN d : Int)) W := by
  subst hx
  rw [run_index_string W 9 _ .u8 _ Tryd.underlying9, dif_pos (by constructor; omega; show (d : Int) < ((16 : Nat) : Int); omega)]
  have : ∀ d : Fin 16, ((⟨#[48, 49, 50, 51, 52, 53, 54, 55, 56, 57, 97, 98, 99, 100, 101, 102]⟩ : ByteArray)[d.1]'d.2).toNat = lowN d.1 := by decide +kernel
  have := this ⟨d, h⟩
  simp only [Int.toNat_natCast]
  rw [this]
theorem low_conv (d : Nat) (h : d < 16) (W : World) : (convert 5 9 (.int .u8 (lowN d : Int))).run Tryd.prog W = .ok (.string (ofL [UInt8.ofNat (lowN d)])) W := by
  rw [run_convert_int_string W _ _ _ _ (by rw [Tryd.underlying5]; rfl) Tryd.underlying9]
  have : ∀ d : Fin 16, Utf8.encode (lowN d.1 : Int) = ofL [UInt8.ofNat (lowN d.1)] := by decide +kernel
  rw [this ⟨d, h⟩]

set_option maxHeartbeats 6400000 in
set_option maxRecDepth 100000 in
theorem normal_walk (s : ByteArray) (a : Option Addr) (len cap : Nat) (b k : ByteArray) (w : World) (hg : Handle w) (hsz : b.size = len) (hx : BytesSl w (.slice a len cap) b) (hs : s.size ≤ 2000) (hl : len ≤ 1000) (hk : k.size ≤ 300) : Calls Tryd.prog 5 #[.string s, .slice a len cap, .string k] w fun e w' => e = .returned (.bool true) ∧ Below w.heap.size w w' := by
  have hnz := normS_size s
  have hnn := norm_norm s
  have hbn := bytes_norm s
  have htn : (told (normS s)).2 = none := by rw [told_norm]
  obtain ⟨hl1, hl2⟩ := low_norm b.data.toList
  have hen : ofL (encL ByteArray.empty b.data.toList) = encS ByteArray.empty b := rfl
  rw [hen] at hl2
  have hls : (ofL (b.data.toList.flatMap lowW)).size ≤ 3000 := by
    rw [← escTo_all, ofL_size]
    have := escTo_len b b.size
    omega
  have hb0 : b.size ≤ 1000 := by omega
  have cE := Lib.hid (fun W hv => percent_Encode (.slice a len cap) b ByteArray.empty W (by omega) hv)
  have cN := Lib.hid (fun W => percent_Normal s W (by omega))
  have cN2 := Lib.hid (fun W => percent_Normal (normS s) W (by omega))
  have cD := Lib.hid (fun W => percent_Decode s W (by omega))
  have cD2 := Lib.hid (fun W => percent_Decode (normS s) W (by omega))
  have cL := Lib.hid (fun W => percent_Normal (ofL (b.data.toList.flatMap lowW)) W (by omega))
  have cP1 := Lib.hid (fun W => percent_Plain 126 W)
  have cP2 := Lib.hid (fun W => percent_Plain 37 W)
  have hall := escTo_all b
  have HALL := Lib.hid hall
  have HNN := Lib.hid hnn
  have HBN := Lib.hid hbn
  have HTN := Lib.hid htn
  have HL1 := Lib.hid hl1
  have HL2 := Lib.hid hl2
  have HSZ := Lib.hid hsz
  clear hnz hnn hbn htn hl1 hl2 hen hall hls
  have hlI : (len : Int) ≤ 1000 := by omega
  go_enter Tryd.func5, Tryd.ntmps5
  go_wp2_with fail
  refine (speaks03 _ hg).mono ?_
  rintro e w1 ⟨rfl, hb1⟩
  clear hg
  go_wp2_with fail
  refine (cN.out _).mono ?_
  rintro e w2 ⟨hb2, h⟩
  have hb12 := Bt hb1 hb2
  clear hb1 hb2
  rcases h with ⟨hn, rfl⟩ | ⟨i, hi, v, rfl, hv⟩
  case' inl =>
    have HN := Lib.hid hn
    clear hn
    go_wp2_with fail
    refine (cN2.out _).mono ?_
    rintro e w3 ⟨hb3, h⟩
    have hb13 := Bt hb12 hb3
    clear hb12 hb3
    rcases h with ⟨_, rfl⟩ | ⟨j, hj, _⟩
    rotate_left
    · rw [HTN.out] at hj; cases hj
    rw [HNN.out]
    go_wp2_with fail
    refine (cD.out _).mono ?_
    rintro e w4 ⟨hb4, h⟩
    have hb14 := Bt hb13 hb4
    clear hb13 hb4
    rcases h with ⟨_, v4, rfl, hown4⟩ | ⟨j, hj, _⟩
    rotate_left
    · rw [HN.out] at hj; cases hj
    go_wp2_with fail
    refine (cD2.out _).mono ?_
    rintro e w5 ⟨hb5, h⟩
    rcases h with ⟨_, v5, rfl, hown5⟩ | ⟨j, hj, _⟩
    rotate_left
    · rw [HTN.out] at hj; cases hj
    rw [HBN.out] at hown5
    have hc4 := (hown4.below hb5).conv
    have hc5 := hown5.conv
    have hbz := Bt hb14 hb5
    generalize hbs : (⟨(bytesT s).toArray⟩ : ByteArray) = bs at *
    have e1 : (bs.toList == bs.toList) = true := beq_self_eq_true _
    generalize hnm : normS s = nm at *
    have e2 : (nm.toList == nm.toList) = true := beq_self_eq_true _
    clear hown4 hown5 hb14 hb5 hbs hnm
    go_upto_region 12 with (fail)
    clear hc4 hc5 e1 e2
  case' inr =>
    obtain ⟨p, rfl⟩ := hv.ne_nil
    have hbz := hb12
    clear hv hi hb12
    go_upto_region 12 with (fail)
  all_goals
    go_wp2_with fail
    go_loopw [15, 81] (fun v x wr => ∃ i : Nat, i ≤ b.size ∧ x = .int .i64 i ∧ v = .string (ofL (escTo b i)) ∧ Below w.heap.size w wr) (fun _ x _ => b.size - (intOf x).toNat)
    case atStart => exact ⟨0, Nat.zero_le _, rfl, rfl, hbz⟩
    case round =>
      obtain ⟨i, hi, rfl, rfl, hbr⟩ := hrel
      have hxr := hx.below hbr
      obtain ⟨a2, c2, hav, _, hpl⟩ := hxr.places
      cases hav
      have hszl := HSZ.out
      by_cases hib : i < b.size
      · obtain ⟨bb, off, rfl, hblt, hcell⟩ := hpl i hib
        have hbyt := (byteAt b i).toNat_lt
        have hsucc := escTo_succ hib
        have hlen : (ofL (escTo b i)).size ≤ 3 * i := by rw [ofL_size]; exact escTo_len b i
        have hilI : (i : Int) < (b.size : Int) := by omega
        have hout : (ofL (escTo b i) ++ ((⟨#[37]⟩ : ByteArray) ++ ofL [UInt8.ofNat (lowN ((byteAt b i).toNat / 16))] ++ ofL [UInt8.ofNat (lowN ((byteAt b i).toNat % 16))])) = ofL (escTo b (i + 1)) := by
          rw [hsucc, ← ofL_app]
          congr 1
        have r1 := fun W => low_index ((byteAt b i).toNat / 16) (by omega) (((byteAt b i).toNat : Int) / 16) (by omega) W
        have r2 := fun W => low_index ((byteAt b i).toNat % 16) (by omega) (((byteAt b i).toNat : Int) % 16) (by omega) W
        have r3 := fun W => low_conv ((byteAt b i).toNat / 16) (by omega) W
        have r4 := fun W => low_conv ((byteAt b i).toNat % 16) (by omega) W
        have s1 : (ofL [UInt8.ofNat (lowN ((byteAt b i).toNat / 16))]).size ≤ 1 := by rw [ofL_size]; exact Nat.le_refl _
        have s2 : (ofL [UInt8.ofNat (lowN ((byteAt b i).toNat % 16))]).size ≤ 1 := by rw [ofL_size]; exact Nat.le_refl _
        generalize lowN ((byteAt b i).toNat / 16) = n1 at *
        generalize lowN ((byteAt b i).toNat % 16) = n2 at *
        generalize ofL [UInt8.ofNat n1] = d1 at *
        generalize ofL [UInt8.ofNat n2] = d2 at *
        generalize byteAt b i = c at *
        generalize ofL (escTo b i) = done at *
        have HOUT := Lib.hid hout
        clear hout hsucc
        go_upto_region 16 with (fail)
        go_quiet (fail)
        clear r1 r2 r3 r4 s1 s2
        go_wp2_with fail
        go_roundw
        case rel => exact ⟨i + 1, by omega, by go_num, congrArg Value.string HOUT.out, below_drewN hbr nq⟩
        case measure => simp [intOf]; omega
      · obtain rfl : i = b.size := by omega
        rw [HALL.out]
        go_wp2_with fail
        refine (cL.out _).mono ?_
        rintro e w6 ⟨hb6, h⟩
        rcases h with ⟨_, rfl⟩ | ⟨j, hj, _⟩
        · rw [HL2.out]
          have hb16 := Bt hbr hb6
          have hx6 := hxr.below hb6
          generalize encS ByteArray.empty b = q at *
          have e3 : (q.toList == q.toList) = true := beq_self_eq_true _
          clear hb6
          go_wp2_with fail
          refine (cE.out _ hx6).mono ?_
          rintro e w7 ⟨rfl, hb7⟩
          have hb17 := Bt hb16 hb7
          go_wp2_with fail
          refine (cP1.out _).mono ?_
          rintro e w8 ⟨rfl, rfl⟩
          go_wp2_with fail
          refine (cP2.out _).mono ?_
          rintro e w9 ⟨rfl, rfl⟩
          have p1 : unres 126 = true := by decide
          have p2 : unres 37 = false := by decide
          go_wp2_with fail
          go_ret
          exact ⟨rfl, hb17⟩
        · rw [HL1.out] at hj; cases hj

theorem walkPercentNormal (s : ByteArray) (a : Option Addr) (len cap : Nat) (z : List Int) (k : ByteArray) (w : World) (hg : Handle w) (_ : s.size ≤ maxLen) (hz : IsRow .u8 w a len cap z) (_ : k.size ≤ maxLen) : Calls Tryd.prog 5 #[.string s, .slice a len cap, .string k] w fun e w' => e = .returned (.bool true) ∧ Below w.heap.size w w' := by
  by_cases h : s.size ≤ 2000 ∧ len ≤ 1000 ∧ k.size ≤ 300
  · obtain ⟨b, h0, hx⟩ := hz.bytes
    exact normal_walk s a len cap b k w hg h0 hx h.1 h.2.1 h.2.2
  · exact normal_long s a len cap k w hg (by omega)
end Go.Proofs.YtajpbfffpnbhpaaDoor
