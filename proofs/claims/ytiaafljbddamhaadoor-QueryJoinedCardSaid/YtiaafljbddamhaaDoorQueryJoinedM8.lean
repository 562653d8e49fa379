/- utf.Next: the character at a place. -/
import Derived.Test.YtiaafljbddamhaaDoorQueryJoinedM6
import Derived.Test.YtiaafljbddamhaaDoorQueryJoinedM7
import Derived.Test.YtiaafljbddamhaaDoorQueryJoinedM2
import Derived.Test.YtiaafljbddamhaaDoorQueryJoinedM3
import Derived.Test.YtiaafljbddamhaaDoorShelf
import Derived.Test.YtiaafljbddamhaaDoorQueryJoinedM1
import Derived.Shelf.Strings.SplitCore

namespace Go.Proofs.YtiaafljbddamhaaDoor
open Go.RowKit

theorem utf8_DecodeRune (s : ByteArray) (i b off cap : Nat) (w : World) (hU : Utf8Laid w) (hi : i < s.size) (hp : BytesIn w b off s) :
    Calls Tryd.prog 164 #[.slice (some ⟨b, off + i, none⟩) (s.size - i) cap] w fun e w' => e = .returned (.tuple #[.int .i32 ((decB s i).1 : Int), .int .i64 ((decB s i).2 : Int)]) ∧ Below w.heap.size w w' := by
  have hsz := extract_tail_size s i (by omega)
  have h := Any7.utf8_DecodeRune Tryd.lays7n32 (s.extract i s.size) b (off + i) cap w hU (fun j hj => by
    rw [byteAt_get, Nat.add_assoc, byteAt_extract s i j (by omega)]
    exact hp (i + j) (by omega))
  rw [decodeGo_extract s i hi, hsz] at h
  exact h

def NextPost (s : ByteArray) (i : Nat) (w : World) (e : Ending) (w' : World) : Prop :=
  Below w.heap.size w w' ∧ ((okB s i = true ∧ e = .returned (.tuple #[.int .i64 ((decB s i).1 : Int), .int .i64 ((decB s i).2 : Int), .nilIface])) ∨
    (okB s i = false ∧ ∃ v, e = .returned (.tuple #[.int .i64 0, .int .i64 0, v]) ∧ IsFault w' v 12 i))

set_option maxHeartbeats 1600000 in
set_option maxRecDepth 100000 in
theorem utf_Next (s : ByteArray) (i b off cap : Nat) (w : World) (hU : Utf8Laid w) (hi : i < s.size) (hc : s.size ≤ cap) (_ : cap ≤ 9223372036854775807) (hp : BytesIn w b off s) :
    Calls Tryd.prog 142 #[.slice (some ⟨b, off, none⟩) s.size cap, .int .i64 (i : Int)] w (NextPost s i w) := by
  obtain ⟨hd1, hd2, hd3, hd4⟩ := decB_bounds s i hi
  have hd5 : (decB s i).1 ≤ 1114111 := by unfold rightC at hd4; omega
  have hok : okB s i = decide (decB s i ≠ (65533, 1)) := rfl
  have hD := Lib.hid (show decB s i = ((decB s i).1, (decB s i).2) from rfl)
  generalize hc1 : (decB s i).1 = c at *
  generalize hn1 : (decB s i).2 = n at *
  have HC := Lib.hid hc1
  have HN := Lib.hid hn1
  have HOK := Lib.hid hok
  clear hc1 hn1 hok hd4
  have hnb : (i : Int) ≤ (s.size : Int) := by omega
  go_enter Tryd.func142, Tryd.ntmps142
  go_wp2_with fail
  refine (utf8_DecodeRune s i b off _ _ hU hi hp).mono ?_
  rintro e w1 ⟨rfl, hb1⟩
  rw [HC.out, HN.out]
  by_cases hc0 : c = 65533
  · by_cases hn0 : n = 1
    · subst hc0 hn0
      go_wp2_with fail
      refine (api_Fail' _ _ _).mono ?_
      rintro e w3 ⟨v, rfl, hv, hb3⟩
      go_wp2_with fail
      go_ret3
      exact ⟨Bt hb1 hb3, .inr ⟨by rw [HOK.out, hD.out]; rfl, v, rfl, hv⟩⟩
    · subst hc0
      have e2 : ((n : Int) == 1) = false := by rw [beq_eq_false_iff_ne]; omega
      go_wp2_with fail
      go_ret3
      exact ⟨hb1, .inl ⟨by rw [HOK.out, hD.out]; simp [hn0], by rw [HC.out, HN.out]; rfl⟩⟩
  · have e1 : ((c : Int) == 65533) = false := by rw [beq_eq_false_iff_ne]; omega
    go_wp2_with fail
    go_ret3
    exact ⟨hb1, .inl ⟨by rw [HOK.out, hD.out]; simp [hc0], by rw [HC.out, HN.out]; rfl⟩⟩

set_option maxHeartbeats 1600000 in
theorem utf_Next_arg (a : Option Addr) (len cap : Nat) (i : Int) (w : World) (hi : i < 0 ∨ (len : Int) < i) :
    Calls Tryd.prog 142 #[.slice a len cap, .int .i64 i] w fun e w' => ∃ v, e = .returned (.tuple #[.int .i64 0, .int .i64 0, v]) ∧ IsFault w' v 1 i ∧ Below w.heap.size w w' := by
  rcases hi with hi | hi
  all_goals
    go_enter Tryd.func142, Tryd.ntmps142
    go_wp2_with fail
    refine (api_Fail' _ _ _).mono ?_
    rintro e w3 ⟨v, rfl, hv, hb3⟩
    go_wp2_with fail
    go_ret3
    exact ⟨v, rfl, hv, hb3⟩

theorem utf_Next_end (a : Option Addr) (len cap : Nat) (w : World) (_ : len ≤ 9223372036854775807) :
    Calls Tryd.prog 142 #[.slice a len cap, .int .i64 (len : Int)] w fun e w' => ∃ v, e = .returned (.tuple #[.int .i64 0, .int .i64 0, v]) ∧ IsFault w' v 10 len ∧ Below w.heap.size w w' := by
  go_enter Tryd.func142, Tryd.ntmps142
  go_wp2_with fail
  refine (api_Fail' _ _ _).mono ?_
  rintro e w3 ⟨v, rfl, hv, hb3⟩
  go_wp2_with fail
  go_ret3
  exact ⟨v, rfl, hv, hb3⟩
end Go.Proofs.YtiaafljbddamhaaDoor

/- The code's ints. -/
namespace Go.Proofs.YtiaafljbddamhaaDoor
open Go.RowKit

theorem info_int : (Tryd.prog.info? 3).map (fun i => (i.zero, i.size, i.bytes)) = some (some (.int .i64 0), 1, 8) := by kernel_rfl
def intV (n : Nat) : Value := .int .i64 (n : Int)
end Go.Proofs.YtiaafljbddamhaaDoor

/- utf.Chars: all characters of bytes. -/
namespace Go.Proofs.YtiaafljbddamhaaDoor
open Go.RowKit

def CharsPost (s : ByteArray) (w : World) (e : Ending) (w' : World) : Prop :=
  Below w.heap.size w w' ∧ (((chrs s).2 = none ∧ ∃ v, e = .returned (.tuple #[v, .nilIface]) ∧ w'.ownsRow w.heap.size 3 1 v (chrs s).1.length ((chrs s).1.map intV)) ∨
    (∃ i, (chrs s).2 = some i ∧ ∃ v, e = .returned (.tuple #[.slice none 0 0, v]) ∧ IsFault w' v 12 i))

set_option maxHeartbeats 1600000 in
set_option maxRecDepth 100000 in
theorem utf_Chars (v : Value) (s : ByteArray) (w : World) (hU : Utf8Laid w) (hs : s.size ≤ 16777216) (hv : BytesSl w v s) :
    Calls Tryd.prog 103 #[v] w (CharsPost s w) := by
  rcases hv with ⟨h0, a, cap, rfl⟩ | ⟨b, off, cap, rfl, hc, hcm, hbs, hp⟩
  · have hz := Lib.hid ((Reach.zero s).done (by omega))
    clear h0
    go_enter Tryd.func103, Tryd.ntmps103
    go_wp2_with fail
    refine wp_loop_rounds 1 ?_
    rw [rounds_succ]
    go_wp2_with fail
    go_ret2
    exact ⟨Below.refl _ _, .inl ⟨by rw [hz.out], _, rfl, by rw [hz.out]; exact World.ownsRow_nil _ _ _ _⟩⟩
  · obtain ⟨i0, hi, hz0, hz1, hz2⟩ := info_parts info_int
    unfold maxLen at hcm
    go_enter Tryd.func103, Tryd.ntmps103
    go_wp2_with fail
    go_loopw [4, 5] (fun v a wr => ∃ (i : Nat) (l : List Nat), i ≤ s.size ∧ a = .int .i64 i ∧ Reach s l i ∧ wr.ownsRow w.heap.size 3 1 v l.length (l.map intV) ∧ Below w.heap.size w wr)
      (fun _ a _ => s.size - (intOf a).toNat)
    case atStart => exact ⟨0, [], Nat.zero_le _, rfl, Reach.zero s, World.ownsRow_nil _ _ _ _, Below.refl _ _⟩
    case round =>
      obtain ⟨i, l, hil, rfl, hr, hown, hbr⟩ := hrel
      have hll : l.length ≤ i := by obtain ⟨_, _, h, _⟩ := hr; exact h
      have HR := Lib.hid hr
      clear hr
      by_cases hlt : i < s.size
      · obtain ⟨hd1, hd2, hd3, hd4⟩ := decB_bounds s i hlt
        clear hd4
        go_wp2_with fail
        refine (utf_Next s i b off cap _ (hU.below hbr) hlt hc hcm (hp.below hbr hbs)).mono ?_
        rintro e w2 ⟨hb2, h⟩
        have hown2 := ownsRow_below hown hb2
        have hbr2 := Bt hbr hb2
        clear hown hbr hb2
        rcases h with ⟨hok, rfl⟩ | ⟨hok, v, rfl, hv⟩
        · have hst := HR.out.step hlt hok
          generalize (decB s i).1 = c at *
          generalize (decB s i).2 = n at *
          have HST := Lib.hid hst
          clear hst hok
          go_wp2_with (at_builtin; refine wpList_append_own _ rfl _ _ 41 rfl w.heap.size 3 i0 (.int .i64 0) 1 8 Tryd.underlying41 hi hz0 hz1 hz2 rfl (by decide) _ _ _ rfl (hown2.alloc _) ⟨w2.heap.size, 0, none⟩ 1 1 [intV c] rfl rfl ?c1 ?c2 ?c3 ?c4 ?c5 ?_)
          case c1 =>
            intro j u hj
            match j, hj with
            | 0, hj => simp at hj; subst hj; simp [Addr.add, intV]
          case c2 => intro u hu; simp at hu; subst hu; rfl
          case c3 => unfold maxLen; omega
          case c4 => omega
          case c5 => have := hbr2.size; simp; omega
          intro v1 w3 hown3 hg3 _
          have hbr3 := below_app hbr2 hown2 (Nat.le_refl _) hg3
          clear hg3 hown2 hbr2
          go_wp2_with fail
          go_roundw
          case rel => exact ⟨i + n, l ++ [c], by omega, by go_num, HST.out, by simpa using hown3, hbr3⟩
          case measure => simp [intOf]; omega
        · obtain ⟨p, rfl⟩ := hv.ne_nil
          have hb := Lib.hid (HR.out.bad hlt hok)
          clear hok
          go_wp2_with fail
          go_ret2
          exact ⟨hbr2, .inr ⟨i, by rw [hb.out], _, rfl, hv⟩⟩
      · have hb := Lib.hid (HR.out.done hlt)
        obtain rfl : i = s.size := by omega
        go_wp2_with fail
        go_ret2
        exact ⟨hbr, .inl ⟨by rw [hb.out], _, rfl, by rw [hb.out]; exact hown⟩⟩

def ValidPost (s : ByteArray) (w : World) (e : Ending) (w' : World) : Prop :=
  Below w.heap.size w w' ∧ (((chrs s).2 = none ∧ e = .returned .nilIface) ∨ (∃ i, (chrs s).2 = some i ∧ ∃ v, e = .returned v ∧ IsFault w' v 12 i))
set_option maxHeartbeats 800000 in
theorem utf_Valid (v : Value) (s : ByteArray) (w : World) (hU : Utf8Laid w) (hs : s.size ≤ 16777216) (hv : BytesSl w v s) :
    Calls Tryd.prog 98 #[v] w (ValidPost s w) := by
  go_enter Tryd.func98, Tryd.ntmps98
  go_wp2_with fail
  refine (utf_Chars v s _ hU hs hv).mono ?_
  rintro e w2 ⟨hb2, h⟩
  rcases h with ⟨hn, v2, rfl, _⟩ | ⟨i, hi, v2, rfl, hv2⟩
  · have HN := Lib.hid hn
    clear hn
    go_wp2_with fail
    go_ret
    exact ⟨hb2, .inl ⟨HN.out, rfl⟩⟩
  · have HN := Lib.hid hi
    clear hi
    go_wp2_with fail
    go_ret
    exact ⟨hb2, .inr ⟨i, HN.out, _, rfl, hv2⟩⟩
end Go.Proofs.YtiaafljbddamhaaDoor

/- A string's bytes, as a slice that reads as the string. -/
namespace Go.Proofs.YtiaafljbddamhaaDoor
open Go.RowKit

section
variable {P : Program}
theorem wpList_bytes_sl {ops : Array Oper} {rest : List Oper} {o : Oper} {a : Act} {w : World} {Q : Exit → Act → World → Prop} (hgd : o.guard = none) (src dst e : TypeId) (x : Operand)
    (ho : o.op = .convert src dst x) (s : ByteArray) (hx : a.eval x = .string s) (hs : P.underlying src = some .string) (hd : P.underlying dst = some (.slice e)) (he : P.underlying e = some (.int .u8)) (hm : s.size ≤ 140737488351232)
    (h : ∀ (v : Value) (w' : World), BytesSl w' v s → Below w.heap.size w w' → wpList P ops Q rest (a.put o.dst v) w') : wpList P ops Q (o :: rest) a w := by
  refine wpList_plain hgd fun K hK => ?_
  unfold Oper.wp execOp
  have hr := run_bytes_of_string (P := P) w src dst e s hs hd he
  simp only [ho, hx, Sem.run_bind, hr, Result.andThen_ok, Sem.run_pure]
  refine hK _ _ (h _ _ (.inr ⟨w.heap.size, 0, grownCap w s.size 0 e, rfl, grownCap_ge w s.size 0 e, grownCap_le_maxLen w s.size 0 e (by unfold maxLen; omega), by simp, BytesAt.isIn ?_⟩) ((((Below.refl _ _).drew).alloc (Nat.le_refl _) _)))
  refine ⟨e, List.replicate (grownCap w s.size 0 e - s.size) (Value.int .u8 0), _, s.data.toList.length + (List.replicate (grownCap w s.size 0 e - s.size) (Value.int .u8 0)).length + 1, .inr (Nat.le_refl _), ?_⟩
  refine (heap_alloc_new w.drew _).trans ?_
  have hb : bytesRow s (grownCap w s.size 0 e) = (List.map byteV s.data.toList ++ List.replicate (grownCap w s.size 0 e - s.size) (Value.int .u8 0)).toArray := by
    unfold bytesRow
    apply Array.ext'
    simp [byteV]
  have hsz : (bytesRow s (grownCap w s.size 0 e)).size = s.data.toList.length + (List.replicate (grownCap w s.size 0 e - s.size) (Value.int .u8 0)).length := by
    rw [hb]; simp
  rw [hsz, hb]
end
end Go.Proofs.YtiaafljbddamhaaDoor

/- strings.Cut and strings.Split at a mark of one byte. -/
namespace Go.Proofs.YtiaafljbddamhaaDoor
open Go.RowKit

theorem cut_full (s : ByteArray) (n : Nat) (h : n = s.size) : s.extract 0 n = s := by
  subst h
  apply ByteArray.ext
  apply Array.ext'
  rw [Lib.extract_data]
  have hl : s.data.toList.length = s.size := rfl
  rw [List.drop_zero, Nat.sub_zero, ← hl, List.take_length]
set_option maxHeartbeats 1600000 in
set_option maxRecDepth 100000 in
theorem lite_Cut1 (s : ByteArray) (c : UInt8) (w : World) (hs : s.size ≤ 16777216) : Calls Tryd.prog 119 #[.string s, .string ⟨#[c]⟩] w fun e w' => e = .returned (.tuple #[.string (cutN c s), .string (cutV c s), .bool (cutH c s)]) ∧ ∃ q, w.drewN q = w' := by
  have cI := Lib.hid (Tryd.stringslite_Index_one s c)
  have h1 : (⟨#[c]⟩ : ByteArray).size = 1 := rfl
  rcases cut_ways c s with ⟨hi, e1, e2, e3, _⟩ | ⟨i, hi, hlt, e1, e2, e3, _⟩
  · rw [e1, e2, e3]
    rw [hi] at cI
    clear hi e1 e2 e3
    go_enter Tryd.func119, Tryd.ntmps119
    go_wp2_with fail
    refine (cI.out _).mono ?_
    rintro e w1 ⟨rfl, rfl⟩
    go_wp2_with fail
    go_ret3
    exact ⟨rfl, 0, rfl⟩
  · rw [e1, e2, e3]
    rw [hi] at cI
    clear hi e1 e2 e3
    go_enter Tryd.func119, Tryd.ntmps119
    go_wp2_with fail
    refine (cI.out _).mono ?_
    rintro e w1 ⟨rfl, rfl⟩
    go_wp2_with fail
    go_quiet (fail)
    go_wp2_with fail
    go_ret3
    exact ⟨rfl, _, rfl⟩
theorem strings_Cut1 (s : ByteArray) (c : UInt8) (w : World) (hs : s.size ≤ 16777216) : Calls Tryd.prog 74 #[.string s, .string ⟨#[c]⟩] w fun e w' => e = .returned (.tuple #[.string (cutN c s), .string (cutV c s), .bool (cutH c s)]) ∧ ∃ q, w.drewN q = w' := by
  have cI := Lib.hid (fun W => lite_Cut1 s c W hs)
  generalize cutN c s = a at *
  generalize cutV c s = b at *
  generalize cutH c s = h at *
  go_enter Tryd.func74, Tryd.ntmps74
  go_wp2_with fail
  refine (cI.out _).mono ?_
  rintro e w1 ⟨rfl, q, rfl⟩
  go_wp2_with fail
  go_ret3
  exact ⟨rfl, _, rfl⟩

theorem split_pieces (c : UInt8) (s : ByteArray) : Lib.splitB ⟨#[c]⟩ 0 (Lib.countB s ⟨#[c]⟩) s = partsB c s := by
  have h := splitB_is c s
  unfold partsB
  rw [← h, List.map_map]
  conv => lhs; rw [← List.map_id (Lib.splitB _ _ _ _)]
  apply List.map_congr_left
  intro x _
  show x = ofL x.data.toList
  exact (ofL_list x).symm
theorem info_str : (Tryd.prog.info? 9).map (fun i => (i.zero, i.size, i.bytes)) = some (some (.string ByteArray.empty), 1, 16) := by kernel_rfl
theorem gen_Split1 (s : ByteArray) (c : UInt8) (w : World) (hs : s.size ≤ 16777216) : Calls Tryd.prog 72 #[.string s, .string ⟨#[c]⟩, .int .i64 0, .int .i64 (-1)] w fun e w' =>
    e = .returned (.slice (some ⟨w.heap.size, 0, none⟩) (partsB c s).length (partsB c s).length) ∧ w' = w.alloc (.cells ((partsB c s).map Value.string).toArray 9) := by
  have h1 : 1 ≤ (⟨#[c]⟩ : ByteArray).size := Nat.le_refl _
  have hle := Lib.countB_le ⟨#[c]⟩ h1 s.size s (Nat.le_refl _)
  have hlen := Lib.splitB_all ⟨#[c]⟩ h1 0 _ s rfl
  have hx : ∀ (x : ByteArray), Lib.indexB x ⟨#[c]⟩ = Lib.indexByte x.data.toList c := fun x => Lib.index_one x.data.toList c
  have hcount : Lib.countB s ⟨#[c]⟩ = Lib.countByte s.data.toList c := Lib.count_one c s.data.toList
  have h := Any.strings_genSplit_core Tryd.lays221 info_str s ⟨#[c]⟩ 0 (-1) (Lib.countB s ⟨#[c]⟩ + 1) w (by omega) h1 (Nat.zero_le _)
    (fun x cs _ => by rw [hx]; exact Tryd.strings_Index_one x c _) (by rw [hcount]; exact Tryd.strings_Count_one s c w) (by decide) (by decide) (by rw [if_pos (by decide)]; omega)
  rw [Nat.add_sub_cancel, hlen] at h
  have e2 : Lib.cellsOf (Lib.splitB ⟨#[c]⟩ 0 (Lib.countB s ⟨#[c]⟩) s) (Lib.countB s ⟨#[c]⟩ + 1) = ((Lib.splitB ⟨#[c]⟩ 0 (Lib.countB s ⟨#[c]⟩) s).map Value.string).toArray := by rw [← hlen]; exact Lib.cellsOf_full _
  rw [e2] at h
  rw [split_pieces] at h hlen
  rw [← hlen] at h
  exact h
theorem strings_Split1 (s : ByteArray) (c : UInt8) (w : World) (hs : s.size ≤ 16777216) : Calls Tryd.prog 46 #[.string s, .string ⟨#[c]⟩] w fun e w' =>
    e = .returned (.slice (some ⟨w.heap.size, 0, none⟩) (partsB c s).length (partsB c s).length) ∧ w.alloc (.cells ((partsB c s).map Value.string).toArray 9) = w' := by
  have cS := Lib.hid (fun W => gen_Split1 s c W hs)
  generalize partsB c s = ps at *
  go_enter Tryd.func46, Tryd.ntmps46
  go_wp2_with fail
  refine (cS.out _).mono ?_
  rintro e w1 ⟨rfl, rfl⟩
  go_wp2_with fail
  go_ret
  exact ⟨rfl, rfl⟩
theorem sum_mem : ∀ (l : List Nat) (x : Nat), x ∈ l → x ≤ l.sum
  | y :: l, x, h => by
    rcases List.mem_cons.1 h with rfl | h
    · rw [List.sum_cons]; omega
    · have := sum_mem l x h; rw [List.sum_cons]; omega
/-- The parts lie in a row. -/
theorem parts_cells (w : World) (ps : List ByteArray) : ∀ i p, ps[i]? = some p → (w.alloc (.cells (ps.map Value.string).toArray 9)).cell? ⟨w.heap.size, i, none⟩ = some (.string p) := by
  intro i p h
  rw [World.cell?_alloc_at _ _ _ _ rfl]
  simp [h]
theorem partsB_sizes (c : UInt8) (s : ByteArray) : ∀ p ∈ partsB c s, p.size ≤ s.size := by
  intro p hp
  unfold partsB at hp
  obtain ⟨l, hl, rfl⟩ := List.mem_map.1 hp
  have h := splitL_len c _ s.data.toList (Nat.le_refl _)
  have hs : s.data.toList.length = s.size := rfl
  have h2 : l.length ≤ ((splitL c s.data.toList).map List.length).sum := sum_mem _ _ (List.mem_map.2 ⟨l, hl, rfl⟩)
  have h3 : 1 ≤ (splitL c s.data.toList).length := List.length_pos_iff.2 (splitL_ne c _)
  rw [ofL_size]
  omega
theorem partsB_len (c : UInt8) (s : ByteArray) : (partsB c s).length ≤ s.size + 1 := by
  have h := splitL_len c _ s.data.toList (Nat.le_refl _)
  have hs : s.data.toList.length = s.size := rfl
  unfold partsB
  rw [List.length_map]
  omega
end Go.Proofs.YtiaafljbddamhaaDoor

/- query.item. -/
namespace Go.Proofs.YtiaafljbddamhaaDoor
open Go.RowKit

theorem told_lt (s : ByteArray) (i : Nat) (h : (told s).2 = some i) : i ≤ s.size := by
  have : ∀ f j k, j ≤ s.size → (toldFrom s f j).2 = some k → k ≤ s.size := by
    intro f
    induction f with
    | zero => intro j k _ h; simp [toldFrom] at h
    | succ f ih =>
      intro j k hj h
      unfold toldFrom at h
      split at h
      · split at h
        · split at h
          · next h1 h2 h3 => exact ih _ _ (by have := escOk_le h3; omega) h
          · cases h; exact hj
        · next h1 h2 => exact ih _ _ (by omega) h
      · cases h
  exact this s.size 0 i (Nat.zero_le _) h
theorem told_count (s : ByteArray) : ∀ f i, (toldFrom s f i).1.length ≤ f := by
  intro f
  induction f with
  | zero => intro i; simp [toldFrom]
  | succ f ih =>
    intro i
    unfold toldFrom
    split
    · split
      · split
        · have := ih (i + 3); simp; omega
        · simp
      · have := ih (i + 1); simp; omega
    · simp
theorem bytesT_len (s : ByteArray) : (bytesT s).length ≤ s.size := by unfold bytesT; rw [List.length_map]; exact told_count s s.size 0
theorem okS_yes {l : List UInt8} (h : (chrs (ofL l)).2 = none) : okS l = true := by unfold okS; rw [h]; rfl
theorem okS_no {l : List UInt8} {i : Nat} (h : (chrs (ofL l)).2 = some i) : okS l = false := by unfold okS; rw [h]; rfl
def QItemPost (s : ByteArray) (a : Nat) (w : World) (e : Ending) (w' : World) : Prop := Below w.heap.size w w' ∧
  ((∃ x, itemP s = .ok x ∧ e = .returned (.tuple #[.agg #[.string x.name, .string x.value, .bool x.has], .nilIface])) ∨
   (∃ k i n, itemP s = .error (k, i) ∧ ∃ v, e = .returned (.tuple #[.agg #[.string ⟨#[]⟩, .string ⟨#[]⟩, .bool false], v]) ∧ FaultIs w' v (k : Int) ((a + i : Nat) : Int) n))
theorem valid_pay {w : World} {v : Value} {i : Int} (h : IsFault w v 12 i) : v ≠ .nilIface ∧ ∃ t p, v = .iface t p := by
  obtain ⟨p, rfl⟩ := h.ne_nil
  exact ⟨(fun e => by cases e), _, _, rfl⟩
set_option maxHeartbeats 3200000 in
set_option maxRecDepth 100000 in
theorem query_item (s : ByteArray) (a : Nat) (w : World) (hg : Handle w) (hU : Utf8Laid w) (hs : s.size ≤ 4000000) (ha : a ≤ 4000000) : Calls Tryd.prog 63 #[.string s, .int .i64 (a : Int)] w (QItemPost s a w) := by
  have hN := cutN_size 61 s
  have hV := cutV_size 61 s
  have cC := Lib.hid (fun W => strings_Cut1 s 61 W (by omega))
  have cN := Lib.hid (fun W hg => query_decode (cutN 61 s) a W hg (by omega) (by omega) (fun i h => Nat.le_trans (told_lt _ i h) (by omega)))
  have cV := Lib.hid (fun W hg => query_decode (cutV 61 s) (a + (cutN 61 s).size + 1) W hg (by omega) (by omega) (fun i h => Nat.le_trans (told_lt _ i h) (by omega)))
  have HB1 := Lib.hid (fun i h => @itemP_bad1 s i h)
  have HB2 := Lib.hid (fun i h0 h => @itemP_bad2 s i h0 h)
  have HU := Lib.hid (fun h0 h1 h => @itemP_utf s h0 h1 h)
  have HOK := Lib.hid (fun h0 h1 h => @itemP_ok s h0 h1 h)
  have hbn : (bytesT (cutN 61 s)).length ≤ 4000000 := Nat.le_trans (bytesT_len _) (by omega)
  have hbv : (bytesT (cutV 61 s)).length ≤ 4000000 := Nat.le_trans (bytesT_len _) (by omega)
  have hnz : (ofL (bytesT (cutN 61 s))).size ≤ 4000000 := by rw [ofL_size]; exact hbn
  have hvz : (ofL (bytesT (cutV 61 s))).size ≤ 4000000 := by rw [ofL_size]; exact hbv
  clear hbn hbv
  generalize cutH 61 s = hh at *
  generalize cutN 61 s = n at *
  generalize cutV 61 s = v at *
  go_enter Tryd.func63, Tryd.ntmps63
  go_wp2_with fail
  refine (cC.out _).mono ?_
  rintro e w2 ⟨rfl, q, rfl⟩
  have hz2 : ItemAt ((w.alloc (.cells #[.string ⟨#[]⟩, .string ⟨#[]⟩, .bool false] 78)).drewN q) w.heap.size ⟨#[]⟩ ⟨#[]⟩ false := ItemAt.new
  have hb2 : Below w.heap.size w ((w.alloc (.cells #[.string ⟨#[]⟩, .string ⟨#[]⟩, .bool false] 78)).drewN q) := below_drewN ((Below.refl _ _).alloc (Nat.le_refl _) _) q
  generalize (w.alloc (.cells #[.string ⟨#[]⟩, .string ⟨#[]⟩, .bool false] 78)).drewN q = w2 at *
  have hg2 := hg.below hb2
  have hU2 := hU.below hb2
  go_wp2_with fail
  refine (cN.out _ hg2).mono ?_
  rintro e w3 ⟨hb3, h⟩
  have hz3 := hz2.below hb3
  have hb13 := Bt hb2 hb3
  have hg3 := hg2.below hb3
  have hU3 := hU2.below hb3
  clear hb2 hb3 hg2 hU2 hz2 cC cN
  rcases h with ⟨hn, rfl⟩ | ⟨i, m, hi, x, rfl, hx⟩
  · go_wp2_with fail
    have e1 : (a : Int) + (n.size : Int) + 1 = ((a + n.size + 1 : Nat) : Int) := by omega
    rw [e1]
    clear e1
    refine (cV.out _ hg3).mono ?_
    rintro e w4 ⟨hb4, h⟩
    have hz4 := hz3.below hb4
    have hb14 := Bt hb13 hb4
    have hg4 := hg3.below hb4
    have hU4 := hU3.below hb4
    clear hb13 hb4 hg3 hU3 hz3 cV
    rcases h with ⟨hv, rfl⟩ | ⟨i, m, hi, x, rfl, hx⟩
    · have HU' := Lib.hid (HU.out hn hv)
      have HOK' := Lib.hid (HOK.out hn hv)
      clear hn hv HU HOK HB1 HB2
      generalize bytesT n = bn at *
      generalize bytesT v = bv at *
      go_wp2_with (refine wpList_bytes_sl rfl 9 35 5 _ rfl (ofL bn) rfl Tryd.underlying9 Tryd.underlying35 Tryd.underlying5 (by omega) ?_)
      intro v5 w5 hv5 hb5
      have hz5 := hz4.below hb5
      have hb15 := Bt hb14 hb5
      have hU5 := hU4.below hb5
      clear hb14 hb5 hg4 hU4 hz4
      go_wp2_with fail
      refine (utf_Valid v5 (ofL bn) _ hU5 (by omega) hv5).mono ?_
      rintro e w6 ⟨hb6, ho6⟩
      have hz6 := hz5.below hb6
      have hb16 := Bt hb15 hb6
      have hU6 := hU5.below hb6
      obtain ⟨r6, rfl, h6⟩ : ∃ r, e = .returned r ∧ ((r = .nilIface ∧ okS bn = true) ∨ (okS bn = false ∧ ∃ t p, r = .iface t p)) := by
        rcases ho6 with ⟨h, rfl⟩ | ⟨i, h, u, rfl, hu⟩
        · exact ⟨_, rfl, .inl ⟨rfl, okS_yes h⟩⟩
        · exact ⟨_, rfl, .inr ⟨okS_no h, (valid_pay hu).2⟩⟩
      clear hb15 hb6 hU5 hz5 hv5 ho6
      go_wp2_with (refine wpList_bytes_sl rfl 9 35 5 _ rfl (ofL bv) rfl Tryd.underlying9 Tryd.underlying35 Tryd.underlying5 (by omega) ?_)
      intro v7 w7 hv7 hb7
      have hz7 := hz6.below hb7
      have hb17 := Bt hb16 hb7
      have hU7 := hU6.below hb7
      clear hb16 hb7 hU6 hz6
      go_wp2_with fail
      refine (utf_Valid v7 (ofL bv) _ hU7 (by omega) hv7).mono ?_
      rintro e w8 ⟨hb8, ho8⟩
      have hz8 := hz7.below hb8
      have hb18 := Bt hb17 hb8
      obtain ⟨r8, rfl, h8⟩ : ∃ r, e = .returned r ∧ ((r = .nilIface ∧ okS bv = true) ∨ (okS bv = false ∧ ∃ t p, r = .iface t p)) := by
        rcases ho8 with ⟨h, rfl⟩ | ⟨i, h, u, rfl, hu⟩
        · exact ⟨_, rfl, .inl ⟨rfl, okS_yes h⟩⟩
        · exact ⟨_, rfl, .inr ⟨okS_no h, (valid_pay hu).2⟩⟩
      clear hb17 hb8 hU7 hz7 hv7 ho8
      have hz9 := hz8.below ((Below.refl w8.heap.size w8).alloc (Nat.le_refl _) (.cells #[r6, r8] 25))
      have hb19 := hb18.alloc hb18.size (.cells #[r6, r8] 25)
      have d0 : (w8.alloc (.cells #[r6, r8] 25)).cell? ⟨w8.heap.size, 0, none⟩ = some r6 := by simp
      have d1 : (w8.alloc (.cells #[r6, r8] 25)).cell? ⟨w8.heap.size, 1, none⟩ = some r8 := by simp
      have cJ := Lib.hid (errors_Join2 w8.heap.size 2 r6 r8 _ (by simp) d0 d1 (by rcases h6 with ⟨h, _⟩ | ⟨_, h⟩; exact .inl h; exact .inr h) (by rcases h8 with ⟨h, _⟩ | ⟨_, h⟩; exact .inl h; exact .inr h))
      have hok : (r6 = .nilIface ∧ r8 = .nilIface) → okS bn = true ∧ okS bv = true := by
        rintro ⟨rfl, rfl⟩
        rcases h6 with ⟨_, h⟩ | ⟨_, t, p, h⟩
        · rcases h8 with ⟨_, h'⟩ | ⟨_, t, p, h'⟩
          · exact ⟨h, h'⟩
          · cases h'
        · cases h
      have hno : ¬ (r6 = .nilIface ∧ r8 = .nilIface) → ¬ (okS bn = true ∧ okS bv = true) := by
        rintro h ⟨h1, h2⟩
        apply h
        rcases h6 with ⟨h, _⟩ | ⟨h, _⟩
        · rcases h8 with ⟨h', _⟩ | ⟨h', _⟩
          · exact ⟨h, h'⟩
          · rw [h2] at h'; cases h'
        · rw [h1] at h; cases h
      have HOK := Lib.hid (fun h => HOK'.out (hok h))
      have HNO := Lib.hid (fun h => HU'.out (hno h))
      clear hok hno HOK' HU' hb18 hz8 d0 d1
      rcases h6 with ⟨rfl, _⟩ | ⟨_, t1, p1, rfl⟩ <;> rcases h8 with ⟨rfl, _⟩ | ⟨_, t2, p2, rfl⟩
      all_goals
        go_wp2_with fail
        refine cJ.out.mono ?_
        rintro e w10 ⟨hb10, h⟩
        have hz10 := hz9.below hb10
        have hb110 := Bt hb19 hb10
        clear hb19 hb10 hz9 cJ
        rcases h with ⟨hy1, hy2, rfl⟩ | ⟨hy, p, rfl⟩
        · have HE := Lib.hid (HOK.out ⟨hy1, hy2⟩)
          clear hy1 hy2 HOK HNO
          go_wp2_with (refine wpList_store_item (o := ⟨none, _, _, _, _, _⟩) rfl _ _ rfl w.heap.size (ofL bn) (ofL bv) hh rfl rfl ⟨#[]⟩ ⟨#[]⟩ false hz10 ?_; intro hst)
          (try simp only [Exit.inBlock, Exit.then])
          refine bodyPost_ret (results_item rfl rfl hst) rfl ?_
          exact ⟨below_setRowI hb110 (Nat.le_refl _) _, .inl ⟨_, HE.out, rfl⟩⟩
        · have HE := Lib.hid (HNO.out hy)
          clear hy HOK HNO
          go_wp2_with fail
          refine (wrap_fault 12 _ _ _ ⟨_, _, rfl⟩).mono ?_
          rintro e w11 ⟨u, rfl, hu, hb11⟩
          have hz11 := hz10.below hb11
          have hb111 := Bt hb110 hb11
          have HX := Lib.hid hu
          obtain ⟨q, rfl⟩ := hu.ne_nil
          clear hu hb11 hb110 hz10
          go_wp2_with (refine wpList_store_item (o := ⟨none, _, _, _, _, _⟩) rfl _ _ rfl w.heap.size ⟨#[]⟩ ⟨#[]⟩ false rfl rfl ⟨#[]⟩ ⟨#[]⟩ false hz11 ?_; intro hst)
          (try simp only [Exit.inBlock, Exit.then])
          refine bodyPost_ret (results_item rfl rfl hst) rfl ?_
          exact ⟨below_setRowI hb111 (Nat.le_refl _) _, .inr ⟨12, 0, _, HE.out, _, rfl, HX.out.setItem hz11 _⟩⟩
    · obtain ⟨u, rfl⟩ := hx.ne_nil
      have HX := Lib.hid hx
      have HE := Lib.hid (HB2.out i hn hi)
      clear hx hi hn
      go_wp2_with (refine wpList_store_item (o := ⟨none, _, _, _, _, _⟩) rfl _ _ rfl w.heap.size ⟨#[]⟩ ⟨#[]⟩ false rfl rfl ⟨#[]⟩ ⟨#[]⟩ false hz4 ?_; intro hst)
      (try simp only [Exit.inBlock, Exit.then])
      refine bodyPost_ret (results_item rfl rfl hst) rfl ?_
      exact ⟨below_setRowI hb14 (Nat.le_refl _) _, .inr ⟨11, _, m, HE.out, _, rfl, by have := HX.out.setItem hz4 #[.string ⟨#[]⟩, .string ⟨#[]⟩, .bool false]; rw [show a + (n.size + 1 + i) = a + n.size + 1 + i by omega]; exact this⟩⟩
  · obtain ⟨u, rfl⟩ := hx.ne_nil
    have HX := Lib.hid hx
    have HE := Lib.hid (HB1.out i hi)
    clear hx hi
    go_wp2_with (refine wpList_store_item (o := ⟨none, _, _, _, _, _⟩) rfl _ _ rfl w.heap.size ⟨#[]⟩ ⟨#[]⟩ false rfl rfl ⟨#[]⟩ ⟨#[]⟩ false hz3 ?_; intro hst)
    (try simp only [Exit.inBlock, Exit.then])
    refine bodyPost_ret (results_item rfl rfl hst) rfl ?_
    exact ⟨below_setRowI hb13 (Nat.le_refl _) _, .inr ⟨11, i, m, HE.out, _, rfl, HX.out.setItem hz3 _⟩⟩
end Go.Proofs.YtiaafljbddamhaaDoor
