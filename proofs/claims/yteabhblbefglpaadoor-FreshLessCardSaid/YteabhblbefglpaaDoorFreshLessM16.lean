/- media.Param, JSON, Accept. -/
import Derived.Test.YteabhblbefglpaaDoorFreshLessM15
import Derived.Test.YteabhblbefglpaaDoorFreshLessM5
import Derived.Test.YteabhblbefglpaaDoorFreshLessM11
import Derived.Test.YteabhblbefglpaaDoorFreshLessM6

namespace Go.Proofs.YteabhblbefglpaaDoor
open Go.RowKit

/-- A name's value. -/
def paramM (l : List It) (n : ByteArray) : Option ByteArray := (l.find? fun x => decide (x.name = n)).map (·.value)
theorem find_ways (l : List It) (n : ByteArray) : (findI (fun x => decide (x.name = n)) l = -1 ∧ paramM l n = none) ∨ ∃ (i : Nat) (x : It), findI (fun x => decide (x.name = n)) l = i ∧ l[i]? = some x ∧ paramM l n = some x.value := by
  unfold findI paramM
  cases h : l.findIdx? fun x => decide (x.name = n) with
  | none =>
    refine .inl ⟨rfl, ?_⟩
    rw [List.findIdx?_eq_none_iff] at h
    have : (l.find? fun x => decide (x.name = n)) = none := by
      rw [List.find?_eq_none]
      intro x hx
      rw [h x hx]; decide
    rw [this]; rfl
  | some i =>
    rw [List.findIdx?_eq_some_iff_getElem] at h
    obtain ⟨hi, hx, hall⟩ := h
    refine .inr ⟨i, l[i], rfl, List.getElem?_eq_getElem hi, ?_⟩
    have : (l.find? fun x => decide (x.name = n)) = some l[i] := by
      rw [List.find?_eq_some_iff_getElem]
      exact ⟨hx, i, hi, rfl, fun j hj => by simpa using hall j hj⟩
    rw [this]; rfl
set_option maxHeartbeats 800000 in
theorem param_fn (b : Nat) (n : ByteArray) (w : World) (hb : w.heap[b]? = some (.cells #[.string n] 9 (0, 0))) : TestI w 114 #[.pointer (some ⟨b, 0, none⟩)] (fun x => decide (x.name = n)) := by
  intro W x hW
  obtain ⟨xn, xv, xh⟩ := x
  have hst : Below W.heap.size W (W.alloc (.cells #[.string xn, .string xv, .bool xh] 94)) := (Below.refl _ _).alloc (Nat.le_refl _) _
  have hlt := lt_of_block hb
  have h1 := (hst.block b (Nat.lt_of_lt_of_le hlt hW.size)).trans ((hW.block b hlt).trans hb)
  have c0 : (W.alloc (.cells #[.string xn, .string xv, .bool xh] 94)).cell? ⟨b, 0, none⟩ = some (.string n) := by rw [cell_of_row _ b 0 _ _ _ h1]; rfl
  have he : (xn.toList == n.toList) = decide (xn = n) := str_eqB xn n
  have HE := Lib.hid he
  clear he h1
  show Calls Tryd.prog 114 #[.agg #[.string xn, .string xv, .bool xh], .pointer (some ⟨b, 0, none⟩)] W _
  go_enter Tryd.func114, Tryd.ntmps114
  go_wp2_with fail
  go_ret
  exact ⟨ret_bool HE.out, hst⟩
set_option maxHeartbeats 1600000 in
set_option maxRecDepth 100000 in
theorem media_Param (a b n : ByteArray) (pa : Option Addr) (c : Nat) (l : List It) (w : World) (hsl : ItemsOwn w pa l) (hl : l.length ≤ 16777216) :
    Calls Tryd.prog 73 #[.agg #[.string a, .string b, .slice pa l.length c], .string n] w fun e w' => Below w.heap.size w w' ∧ ((paramM l n = none ∧ e = .returned (.tuple #[.string ⟨#[]⟩, .bool false])) ∨ ∃ v, paramM l n = some v ∧ e = .returned (.tuple #[.string v, .bool true])) := by
  have hm1 : MediaAt (w.alloc (.cells #[.string a, .string b, .slice pa l.length c] 116)) w.heap.size a b pa l.length c := MediaAt.new
  have hst1 := (Below.refl w.heap.size w).alloc (Nat.le_refl _) (.cells #[.string a, .string b, .slice pa l.length c] 116)
  have hst2 := (Below.refl (w.alloc (.cells #[.string a, .string b, .slice pa l.length c] 116)).heap.size (w.alloc (.cells #[.string a, .string b, .slice pa l.length c] 116))).alloc (Nat.le_refl _) (.cells #[.string n] 9)
  have hm2 := hm1.below hst2
  have hb2 := Bt hst1 hst2
  have hs2 := hsl.below hb2
  have hbx : ((w.alloc (.cells #[.string a, .string b, .slice pa l.length c] 116)).alloc (.cells #[.string n] 9)).heap[w.heap.size + 1]? = some (.cells #[.string n] 9 (0, 0)) := by
    have := heap_alloc_new (w.alloc (.cells #[.string a, .string b, .slice pa l.length c] 116)) (.cells #[.string n] 9)
    rw [World.size_alloc] at this
    exact this
  have cI := Lib.hid (items_IndexFunc pa c l 114 (w.heap.size + 1) (fun x => decide (x.name = n)) _ hs2 hl (enters_of Tryd.func114 (by kernel_rfl) rfl) (param_fn _ n _ hbx))
  have hw := find_ways l n
  have hmf : ∀ (fn : Fn) (first cap : Array Value) (w : World), (Instr.makeFunc fn first cap).run Tryd.prog w = .ok (.func fn first cap) w := fun _ _ _ _ => rfl
  obtain ⟨_, _, k2⟩ := hm2.cells
  clear hbx hst1 hst2 hm1
  rcases hw with ⟨hi, hp⟩ | ⟨i, x, hi, hx, hp⟩
  · rw [hi] at cI
    have HP := Lib.hid hp
    clear hp hi
    go_enter Tryd.func73, Tryd.ntmps73
    go_wp2_with fail
    refine cI.out.mono ?_
    rintro e w3 ⟨rfl, hb3⟩
    have hb4 := Bt hb2 hb3
    go_wp2_with fail
    go_ret2
    exact ⟨hb4, .inl ⟨HP.out, rfl⟩⟩
  · rw [hi] at cI
    have HP := Lib.hid hp
    have hil := (List.getElem?_eq_some_iff.1 hx).1
    have hiI : (i : Int) < (l.length : Int) := by omega
    have HX := Lib.hid hx
    clear hp hi hx
    go_enter Tryd.func73, Tryd.ntmps73
    go_wp2_with fail
    refine cI.out.mono ?_
    rintro e w3 ⟨rfl, hb3⟩
    have hb4 := Bt hb2 hb3
    obtain ⟨q, rfl, hq, d0, d1, d2⟩ := (hs2.below hb3) i x HX.out
    obtain ⟨_, _, k2⟩ := (hm2.below hb3).cells
    clear hs2 hm2
    go_wp2_with fail
    go_ret2
    exact ⟨hb4, .inr ⟨_, HP.out, rfl⟩⟩
def appS : ByteArray := ⟨#[97, 112, 112, 108, 105, 99, 97, 116, 105, 111, 110]⟩
def jsonS : ByteArray := ⟨#[106, 115, 111, 110]⟩
def pkcsS : ByteArray := ⟨#[112, 107, 99, 115, 55, 45, 109, 105, 109, 101]⟩
def sufS : ByteArray := ⟨#[43, 106, 115, 111, 110]⟩
def charS : ByteArray := ⟨#[99, 104, 97, 114, 115, 101, 116]⟩
def utf8S : ByteArray := ⟨#[117, 116, 102, 45, 56]⟩
/-- Is a kind of content JSON? -/
def jsonB (a b : ByteArray) : Bool := decide (a = appS) && (decide (b = jsonS) || (decide (b = pkcsS) || (decide (5 < b.size) && Lib.hasSuffix b.data.toList sufS.data.toList)))
theorem str_yes {a : ByteArray} {l : List UInt8} (h : a = ofL l) : (a.toList == l) = true := by
  rw [h, ByteArray.toList_eq]
  simp [ofL]
theorem str_no {a : ByteArray} {l : List UInt8} (h : a ≠ ofL l) : (a.toList == l) = false := by
  rw [beq_eq_false_iff_ne, ByteArray.toList_eq]
  intro e
  apply h
  rw [← e]
  exact (ofL_list a).symm
set_option maxHeartbeats 1600000 in
set_option maxRecDepth 100000 in
theorem media_JSON (a b : ByteArray) (pa : Option Addr) (l c : Nat) (w : World) (hb : b.size ≤ 16777216) :
    Calls Tryd.prog 74 #[.agg #[.string a, .string b, .slice pa l c]] w fun e w' => e = .returned (.bool (jsonB a b)) ∧ Below w.heap.size w w' := by
  have hm1 : MediaAt (w.alloc (.cells #[.string a, .string b, .slice pa l c] 116)) w.heap.size a b pa l c := MediaAt.new
  have hst1 := (Below.refl w.heap.size w).alloc (Nat.le_refl _) (.cells #[.string a, .string b, .slice pa l c] 116)
  obtain ⟨k0, k1, _⟩ := hm1.cells
  have cS := Lib.hid (fun W => Tryd.strings_HasSuffix b sufS W (by omega))
  clear hm1
  by_cases h1 : a = appS
  · have e1 : (a.toList == [97, 112, 112, 108, 105, 99, 97, 116, 105, 111, 110]) = true := str_yes h1
    by_cases h2 : b = jsonS
    · have e2 : (b.toList == [106, 115, 111, 110]) = true := str_yes h2
      have hj : jsonB a b = true := by unfold jsonB; rw [decide_eq_true h1, decide_eq_true h2]; rfl
      have HJ := Lib.hid hj
      clear h1 h2 hj
      go_enter Tryd.func74, Tryd.ntmps74
      go_wp2_with fail
      go_ret
      exact ⟨ret_bool HJ.out.symm, hst1⟩
    · have e2 : (b.toList == [106, 115, 111, 110]) = false := str_no h2
      by_cases h3 : b = pkcsS
      · have e3 : (b.toList == [112, 107, 99, 115, 55, 45, 109, 105, 109, 101]) = true := str_yes h3
        have hj : jsonB a b = true := by unfold jsonB; rw [decide_eq_true h1, decide_eq_true h3]; simp
        have HJ := Lib.hid hj
        clear h1 h2 h3 hj
        go_enter Tryd.func74, Tryd.ntmps74
        go_wp2_with fail
        go_ret
        exact ⟨ret_bool HJ.out.symm, hst1⟩
      · have e3 : (b.toList == [112, 107, 99, 115, 55, 45, 109, 105, 109, 101]) = false := str_no h3
        by_cases h5 : 5 < b.size
        · have h5I : (b.size : Int) > 5 := by omega
          have hj : jsonB a b = Lib.hasSuffix b.data.toList sufS.data.toList := by unfold jsonB; rw [decide_eq_true h1, decide_eq_false h2, decide_eq_false h3, decide_eq_true h5]; simp
          have HJ := Lib.hid hj
          clear h1 h2 h3 hj
          go_enter Tryd.func74, Tryd.ntmps74
          go_wp2_with fail
          refine (cS.out _).mono ?_
          rintro e w2 ⟨rfl, rfl⟩
          go_wp2_with fail
          go_ret
          exact ⟨ret_bool HJ.out.symm, hst1⟩
        · have h5I : decide ((b.size : Int) > 5) = false := decide_eq_false (by omega)
          have h5J : ¬ (b.size : Int) > 5 := by omega
          have hj : jsonB a b = false := by unfold jsonB; rw [decide_eq_false h2, decide_eq_false h3, decide_eq_false h5]; simp
          have HJ := Lib.hid hj
          clear h1 h2 h3 hj h5
          go_enter Tryd.func74, Tryd.ntmps74
          go_wp2_with fail
          go_ret
          exact ⟨ret_bool HJ.out.symm, hst1⟩
  · have e1 : (a.toList == [97, 112, 112, 108, 105, 99, 97, 116, 105, 111, 110]) = false := str_no h1
    have hj : jsonB a b = false := by unfold jsonB; rw [decide_eq_false h1]; rfl
    have HJ := Lib.hid hj
    clear h1 hj
    go_enter Tryd.func74, Tryd.ntmps74
    go_wp2_with fail
    go_ret
    exact ⟨ret_bool HJ.out.symm, hst1⟩
end Go.Proofs.YteabhblbefglpaaDoor

/- fresh.Life. -/
namespace Go.Proofs.YteabhblbefglpaaDoor
open Go.RowKit

def noStore : ByteArray := ⟨#[110, 111, 45, 115, 116, 111, 114, 101]⟩
def noCache : ByteArray := ⟨#[110, 111, 45, 99, 97, 99, 104, 101]⟩
def maxAge : ByteArray := ⟨#[109, 97, 120, 45, 97, 103, 101]⟩
/-- How long things last, from a directive on. -/
def lifeG : List It → Nat → Bool → Nat
  | [], life, _ => life
  | x :: l, life, told => if x.name = noStore ∨ x.name = noCache then 300 else
    if x.name = maxAge ∧ (numRes x.value 10 18446744073709551615).2.1 = 0 ∧ x.has = true ∧ told = false then lifeG l (min (max (numRes x.value 10 18446744073709551615).1 300) 604800) true else lifeG l life told
def lifeD (s : ByteArray) : Nat := if (dirsD s).2.1 = 0 then lifeG (dirsD s).1 86400 false else 86400
theorem lifeG_no {x : It} {l : List It} {life : Nat} {told : Bool} (h : x.name = noStore ∨ x.name = noCache) : lifeG (x :: l) life told = 300 := by rw [lifeG, if_pos h]
theorem lifeG_age {x : It} {l : List It} {life : Nat} (h : ¬ (x.name = noStore ∨ x.name = noCache)) (h2 : x.name = maxAge) (h3 : (numRes x.value 10 18446744073709551615).2.1 = 0) (h4 : x.has = true) : lifeG (x :: l) life false = lifeG l (min (max (numRes x.value 10 18446744073709551615).1 300) 604800) true := by rw [lifeG, if_neg h, if_pos ⟨h2, h3, h4, rfl⟩]
theorem lifeG_skip {x : It} {l : List It} {life : Nat} {told : Bool} (h : ¬ (x.name = noStore ∨ x.name = noCache)) (h2 : ¬ (x.name = maxAge ∧ (numRes x.value 10 18446744073709551615).2.1 = 0 ∧ x.has = true ∧ told = false)) : lifeG (x :: l) life told = lifeG l life told := by rw [lifeG, if_neg h, if_neg h2]
set_option maxHeartbeats 3200000 in
set_option maxRecDepth 100000 in
theorem fresh_Life (s : ByteArray) (w : World) (hz : ∀ x ∈ (dirsD s).1, x.value.size ≤ 1000) : Calls Tryd.prog 30 #[.string s] w fun e w' => e = .returned (.int .u64 (lifeD s : Int)) ∧ Below w.heap.size w w' := by
  have cD := Lib.hid (fun W => fresh_Directives s W)
  have HZ := Lib.hid hz
  clear hz
  go_enter Tryd.func30, Tryd.ntmps30
  go_wp2_with fail
  refine (cD.out _).mono ?_
  rintro e w1 ⟨hb1, h⟩
  rcases h with ⟨hk, v, rfl, hown⟩ | ⟨hk, v, n, rfl, hv⟩
  · have hlf : lifeD s = lifeG (dirsD s).1 86400 false := if_pos hk
    generalize (dirsD s).1 = l at *
    obtain ⟨pa, c, rfl, hc1, hc2, hsl⟩ := hown.sl
    unfold maxLen at hc2
    have HLF := Lib.hid hlf
    clear hown hk hlf cD
    go_wp2_with fail
    go_loopw [5, 6, 18] (fun a b x wr => ∃ (i life : Nat) (told : Bool), i ≤ l.length ∧ life ≤ 604800 ∧ a = .int .u64 (life : Int) ∧ b = .bool told ∧ x = .int .i64 i ∧ Below w1.heap.size w1 wr ∧ lifeD s = lifeG (l.drop i) life told) (fun _ _ x _ => l.length - (intOf x).toNat)
    case atStart => exact ⟨0, 86400, false, Nat.zero_le _, by omega, rfl, rfl, rfl, Below.refl _ _, HLF.out⟩
    case round =>
      obtain ⟨i, life, told, hil, hlf, rfl, rfl, rfl, hbr, hgo⟩ := hrel
      have hsr := hsl.below hbr
      by_cases hlt : i < l.length
      · obtain ⟨x, hx⟩ : ∃ x, l[i]? = some x := ⟨_, List.getElem?_eq_getElem hlt⟩
        obtain ⟨b, rfl, hb, d0, d1, d2⟩ := hsr i x hx
        have hvz := HZ.out x (List.mem_of_getElem? hx)
        rw [drop_cons' hx] at hgo
        have hiI : (i : Int) < (l.length : Int) := by omega
        obtain ⟨xn, xv, xh⟩ := x
        have hst := (Below.refl wr.heap.size wr).alloc (Nat.le_refl _) (.cells #[.string xn, .string xv, .bool xh] 94)
        have hbr2 := Bt hbr hst
        have hbf := Bt hb1 hbr2
        clear hsr hx hst
        by_cases h1 : xn = noStore
        · have HX := Lib.hid (hgo.trans (lifeG_no (.inl h1)))
          have e1 : (xn.toList == [110, 111, 45, 115, 116, 111, 114, 101]) = true := str_yes h1
          clear hgo h1
          go_wp2_with fail
          go_ret
          exact ⟨by rw [HX.out]; rfl, hbf⟩
        · have e1 : (xn.toList == [110, 111, 45, 115, 116, 111, 114, 101]) = false := str_no h1
          by_cases h2 : xn = noCache
          · have HX := Lib.hid (hgo.trans (lifeG_no (.inr h2)))
            have e2 : (xn.toList == [110, 111, 45, 99, 97, 99, 104, 101]) = true := str_yes h2
            clear hgo h1 h2
            go_wp2_with fail
            go_ret
            exact ⟨by rw [HX.out]; rfl, hbf⟩
          · have e2 : (xn.toList == [110, 111, 45, 99, 97, 99, 104, 101]) = false := str_no h2
            have h12 : ¬ (xn = noStore ∨ xn = noCache) := fun h => h.elim h1 h2
            by_cases h3 : xn = maxAge
            · have e3 : (xn.toList == [109, 97, 120, 45, 97, 103, 101]) = true := str_yes h3
              have cN := Lib.hid (fold_Decimal_max xv (wr.alloc (.cells #[.string xn, .string xv, .bool xh] 94)) (by simp only at hvz; omega))
              have hit : ItemAt (wr.alloc (.cells #[.string xn, .string xv, .bool xh] 94)) wr.heap.size xn xv xh := ItemAt.new
              have HAGE := Lib.hid (fun (h5 : (numRes xv 10 18446744073709551615).2.1 = 0) (h6 : xh = true) (h7 : told = false) => hgo.trans (by subst h7; exact lifeG_age (x := ⟨xn, xv, xh⟩) h12 h3 h5 h6))
              have HSK := Lib.hid (fun (h : ¬ ((numRes xv 10 18446744073709551615).2.1 = 0 ∧ xh = true ∧ told = false)) => hgo.trans (lifeG_skip (x := ⟨xn, xv, xh⟩) h12 (fun h' => h h'.2)))
              clear hgo h1 h2 h3 h12
              go_wp2_with fail
              refine cN.out.mono ?_
              rintro e w4 ⟨v, rfl, hv, hk⟩
              have hit4 := hit.below hk
              have hbr4 := Bt hbr2 hk
              obtain ⟨k0, k1, k2⟩ := hit4.cells
              clear hit hit4 hk hbr2 hbf cN
              generalize (numRes xv 10 18446744073709551615).1 = n at *
              generalize (numRes xv 10 18446744073709551615).2.1 = kd at *
              by_cases hkd : kd = 0
              · obtain ⟨_, rfl⟩ : kd = 0 ∧ v = .nilIface := by
                  rcases hv with h | ⟨h, _⟩
                  · exact h
                  · exact absurd hkd h
                clear hv
                cases xh with
                | false =>
                  have HX := Lib.hid (HSK.out (fun h => by cases h.2.1))
                  clear HSK HAGE hkd
                  go_wp2_with fail
                  go_roundw
                  case rel => exact ⟨i + 1, life, told, by omega, hlf, by trivial, by trivial, by go_num, hbr4, HX.out⟩
                  case measure => simp [intOf]; omega
                | true =>
                  cases told with
                  | true =>
                    have HX := Lib.hid (HSK.out (fun h => by cases h.2.2))
                    clear HSK HAGE hkd
                    go_wp2_with fail
                    go_roundw
                    case rel => exact ⟨i + 1, life, true, by omega, hlf, by trivial, by trivial, by go_num, hbr4, HX.out⟩
                    case measure => simp [intOf]; omega
                  | false =>
                    have HX := Lib.hid (HAGE.out hkd rfl rfl)
                    clear HSK HAGE hkd
                    go_wp2_with fail
                    go_roundw
                    case rel => exact ⟨i + 1, min (max n 300) 604800, true, by omega, by omega, by go_num, by trivial, by go_num, hbr4, HX.out⟩
                    case measure => simp [intOf]; omega
              · have HX := Lib.hid (HSK.out (fun h => hkd h.1))
                obtain ⟨q, rfl⟩ : ∃ q, v = .iface 77 q := by
                  rcases hv with ⟨h, _⟩ | ⟨_, m, h⟩
                  · exact absurd h hkd
                  · exact h.ne_nil
                clear hv HSK HAGE hkd
                go_wp2_with fail
                go_roundw
                case rel => exact ⟨i + 1, life, told, by omega, hlf, by trivial, by trivial, by go_num, hbr4, HX.out⟩
                case measure => simp [intOf]; omega
            · have e3 : (xn.toList == [109, 97, 120, 45, 97, 103, 101]) = false := str_no h3
              have HX := Lib.hid (hgo.trans (lifeG_skip h12 (fun h => h3 h.1)))
              clear hgo h1 h2 h3 h12
              go_wp2_with fail
              go_roundw
              case rel => exact ⟨i + 1, life, told, by omega, hlf, by trivial, by trivial, by go_num, hbr2, HX.out⟩
              case measure => simp [intOf]; omega
      · obtain rfl : i = l.length := by omega
        rw [List.drop_length] at hgo
        have HX := Lib.hid hgo
        have hbf := Bt hb1 hbr
        clear hgo
        go_wp2_with fail
        go_ret
        exact ⟨by rw [HX.out]; rfl, hbf⟩
  · have HX := Lib.hid (show lifeD s = 86400 from if_neg hk)
    obtain ⟨q, rfl⟩ := hv.ne_nil
    clear hk hv cD
    go_wp2_with fail
    refine wp_loop_rounds 1 ?_
    rw [rounds_succ]
    go_wp2_with fail
    go_ret
    exact ⟨by rw [HX.out]; rfl, hb1⟩
end Go.Proofs.YteabhblbefglpaaDoor

/- FreshLess: the plain law. -/
namespace Go.Proofs.YteabhblbefglpaaDoor
open Go.RowKit

theorem lifeG_least : ∀ (l : List It) (life : Nat) (told : Bool), 300 ≤ life → 300 ≤ lifeG l life told
  | [], _, _, h => h
  | x :: l, life, told, h => by
    by_cases h1 : x.name = noStore ∨ x.name = noCache
    · rw [lifeG_no h1]; exact Nat.le_refl _
    · by_cases h2 : x.name = maxAge ∧ (numRes x.value 10 18446744073709551615).2.1 = 0 ∧ x.has = true ∧ told = false
      · obtain ⟨h2, h3, h4, rfl⟩ := h2
        rw [lifeG_age h1 h2 h3 h4]
        exact lifeG_least l _ _ (by omega)
      · rw [lifeG_skip h1 h2]; exact lifeG_least l _ _ h
theorem lifeG_end {x : It} (hx : x.name = noStore ∨ x.name = noCache) : ∀ (l : List It) (life : Nat) (told : Bool), lifeG (l ++ [x]) life told = 300
  | [], life, told => lifeG_no hx
  | y :: l, life, told => by
    rw [List.cons_append]
    by_cases h1 : y.name = noStore ∨ y.name = noCache
    · rw [lifeG_no h1]
    · by_cases h2 : y.name = maxAge ∧ (numRes y.value 10 18446744073709551615).2.1 = 0 ∧ y.has = true ∧ told = false
      · obtain ⟨h2, h3, h4, rfl⟩ := h2
        rw [lifeG_age h1 h2 h3 h4]
        exact lifeG_end hx l _ _
      · rw [lifeG_skip h1 h2]; exact lifeG_end hx l _ _
theorem lifeG_other {x : It} (hx : ¬ (x.name = noStore ∨ x.name = noCache)) (hx2 : x.name ≠ maxAge) : ∀ (l : List It) (life : Nat) (told : Bool), lifeG (l ++ [x]) life told = lifeG l life told
  | [], life, told => lifeG_skip hx (fun h => hx2 h.1)
  | y :: l, life, told => by
    rw [List.cons_append]
    by_cases h1 : y.name = noStore ∨ y.name = noCache
    · rw [lifeG_no h1, lifeG_no h1]
    · by_cases h2 : y.name = maxAge ∧ (numRes y.value 10 18446744073709551615).2.1 = 0 ∧ y.has = true ∧ told = false
      · obtain ⟨h2, h3, h4, rfl⟩ := h2
        rw [lifeG_age h1 h2 h3 h4, lifeG_age h1 h2 h3 h4]
        exact lifeG_other hx hx2 l _ _
      · rw [lifeG_skip h1 h2, lifeG_skip h1 h2]; exact lifeG_other hx hx2 l _ _
theorem stepD_right : RightG stepD where
  none p b b' h := by
    by_cases h0 : (trimS p).size = 0
    · exact stepD_empty h0
    · exfalso
      cases hd : dirP (trimS p) with
      | none => rw [stepD_bad h0 hd] at h; cases h
      | some x =>
        cases b with
        | true => rw [stepD_many h0 hd] at h; cases h
        | false => rw [stepD_ok h0 hd] at h; cases h
  kind p full k i h := by
    unfold stepD at h
    split at h
    · cases h
    · split at h
      · cases h; decide
      · split at h
        · cases h; decide
        · cases h
  full p x h := by
    unfold stepD at h
    split at h
    · cases h
    · split at h
      · cases h
      · cases h
/-- One directive more behind a comma. -/
theorem dirs_more {s t : ByteArray} {x : It} (hs : (s ++ ofL [44] ++ t).size ≤ 1000) (h : (dirsD s).2.1 = 0) (ht : partsB 44 t = [t]) (hx : stepD t false = some (.ok x)) (hm : stepD t true = some (.error (15, 0))) :
    ((dirsD s).1.length < 32 → dirsD (s ++ ofL [44] ++ t) = ((dirsD s).1 ++ [x], 0, 0)) ∧ ((dirsD s).1.length = 32 → (dirsD (s ++ ofL [44] ++ t)).2.1 = 15) := by
  have hz : s.size ≤ 1000 := by
    rw [ByteArray.size_append, ByteArray.size_append] at hs
    omega
  have e1 : dirsD s = goG stepD 32 (partsB 44 s) 0 [] := if_neg (by omega)
  have e2 : dirsD (s ++ ofL [44] ++ t) = goG stepD 32 (partsB 44 s ++ [t]) 0 [] := by
    rw [← ht, ← partsB_app]
    exact if_neg (by omega)
  rw [e1] at h ⊢
  rw [e2, goG_app stepD_right, if_pos h]
  refine ⟨fun hl => ?_, fun hl => ?_⟩
  · rw [goG_ok (by rw [decide_eq_false (by omega)]; exact hx)]
    rfl
  · rw [goG_bad (by rw [decide_eq_true hl]; exact hm)]
end Go.Proofs.YteabhblbefglpaaDoor

/- The sizes of directives' values. -/
namespace Go.Proofs.YteabhblbefglpaaDoor
open Go.RowKit

theorem goG_all {g : StepG} {most : Nat} (P : It → Prop) : ∀ (ps : List ByteArray) (at_ : Nat) (acc : List It), (∀ x ∈ acc, P x) → (∀ p ∈ ps, ∀ full x, g p full = some (.ok x) → P x) → ∀ x ∈ (goG g most ps at_ acc).1, P x
  | [], _, acc, h, _ => h
  | p :: ps, at_, acc, h, hp => by
    rcases goG_ways g most p acc with h1 | ⟨k, i, h1⟩ | ⟨x, h1⟩
    · rw [goG_none h1]; exact goG_all P ps _ _ h (fun q hq => hp q (List.mem_cons_of_mem _ hq))
    · rw [goG_bad h1]; intro y hy; cases hy
    · rw [goG_ok h1]
      refine goG_all P ps _ _ (fun y hy => ?_) (fun q hq => hp q (List.mem_cons_of_mem _ hq))
      rw [List.mem_append, List.mem_singleton] at hy
      rcases hy with hy | rfl
      · exact h y hy
      · exact hp p (List.mem_cons_self ..) _ _ h1
theorem dirP_size {s : ByteArray} {x : It} (h : dirP s = some x) : x.value.size ≤ s.size := by
  have hV := cutV_size 61 s
  unfold dirP at h
  split at h
  · split at h
    · split at h
      · cases h; exact hV
      · split at h
        · cases h
          show (unq (cutV 61 s)).size ≤ _
          unfold unq
          rw [ByteArray.size_extract]
          omega
        · cases h
    · cases h; exact hV
  · cases h
theorem stepD_size {p : ByteArray} {full : Bool} {x : It} (h : stepD p full = some (.ok x)) : x.value.size ≤ p.size := by
  have ht := trimS_le p
  unfold stepD at h
  split at h
  · cases h
  · split at h
    · cases h
    · rename_i y hy
      split at h
      · cases h
      · cases h
        exact Nat.le_trans (dirP_size hy) ht
theorem dirs_sizes (s : ByteArray) : ∀ x ∈ (dirsD s).1, x.value.size ≤ 1000 := by
  unfold dirsD
  split
  · intro x hx; cases hx
  · refine goG_all (fun x => x.value.size ≤ 1000) _ _ _ (fun x hx => by cases hx) (fun p hp full x hx => ?_)
    have h1 := stepD_size hx
    have h2 := partsB_sizes 44 s p hp
    omega
end Go.Proofs.YteabhblbefglpaaDoor
