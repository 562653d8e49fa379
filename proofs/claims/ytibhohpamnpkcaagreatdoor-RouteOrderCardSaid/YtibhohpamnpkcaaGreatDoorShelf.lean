/-
  DERIVED: THE SHELF's CONTRACTS AT THIS DUMP, IN PLAIN WORDS (tools/lay-plain.mjs out of 'TryzShelf.lean', which tools/lay-shelf.mjs wrote): THE SAME DECLARATIONS UNDER THE SAME NAMES: 'import', 'namespace', 'open', 'def', 'theorem' AND NOTHING ELSE: no command of the shelf's: FOR A HAND-IN. Each laying: the table of numbers ('.._ren') and one theorem, a field a fact of the dump's own or the kernel's comparison; each contract: ONE APPLICATION.
-/
import Derived.Shelf.Spec.NilArms
import Derived.Shelf.Spec.DecodeRune
import Derived.Shelf.Strings.Builder1
import Derived.Shelf.Strings.Trim
import Derived.Shelf.Small.Utf8
import Derived.Shelf.Small.Strs
import Derived.Shelf.Strings.BuilderF
import Derived.Shelf.Strings.BuilderK
import Derived.Shelf.Utf8.RuneCount
import Derived.Shelf.Strings.Search1
import Derived.Shelf.Strings.Search2
import Derived.Shelf.Strings.Search3
import Derived.Shelf.Strings.Cut
import Derived.Shelf.Strings.Count
import Derived.Shelf.LaysM
import Derived.Shelf.Strings.Shaped
import Derived.Shelf.Strings.Prefix
import Derived.Shelf.Strings.Split
import Derived.Shelf.Strings.SplitShaped
import Derived.Shelf.Unicode.Decode
import Derived.Shelf.Strings.Runes
import Derived.Shelf.Strings.RuneCount
import Derived.Shelf.Strings.AsciiSet
import Derived.Shelf.Strings.Explode
import Derived.Shelf.Bits.Mul64
import Derived.Shelf.Unicode.DecodeSlow
import Derived.Shelf.Unicode.DecodeAny
import Derived.Test.YtibhohpamnpkcaaGreatDoorProg
namespace Go.Proofs
open Go.Shelf
def Tryz.lays169_ren : Go.Shelf.Ren := ⟨fun | 169 => 169 | n => n, fun | 70 => 278 | 9 => 9 | 0 => 0 | 72 => 280 | 37 => 74 | 127 => 303 | 3 => 3 | 5 => 5 | n => n, fun | n => n⟩
theorem Tryz.lays169 : Go.Proofs.Lays.n169 Tryz.prog Tryz.lays169_ren := {
  mixed := by kernel_rfl
  f169 := Tryz.func169.trans (congrArg some (by kernel_rfl))
  t0 := Tryz.underlying0
  a0 := Tryz.isAgg0
  z0 := Tryz.sizeOf0
  v0 := Tryz.zeroValue0
  t3 := Tryz.underlying3
  a3 := Tryz.isAgg3
  z3 := Tryz.sizeOf3
  v3 := Tryz.zeroValue3
  t9 := Tryz.underlying9
  a9 := Tryz.isAgg9
  z9 := Tryz.sizeOf9
  v9 := Tryz.zeroValue9
  t37 := Tryz.underlying74
  a37 := Tryz.isAgg74
  z37 := Tryz.sizeOf74
  v37 := Tryz.zeroValue74
  t70 := Tryz.underlying278
  a70 := Tryz.isAgg278
  z70 := Tryz.sizeOf278
  v70 := Tryz.zeroValue278
  t72 := Tryz.underlying280
  a72 := Tryz.isAgg280
  z72 := Tryz.sizeOf280
  v72 := Tryz.zeroValue280
  t127 := Tryz.underlying303
  a127 := Tryz.isAgg303
  z127 := Tryz.sizeOf303
  v127 := Tryz.zeroValue303 }
theorem Tryz.Builder_Extra_169 : Builder.Extra Tryz.prog Tryz.lays169_ren := {
  sizeBuilder := by kernel_rfl
  liesBuilder := by kernel_rfl
  t5 := Tryz.underlying5
  a5 := Tryz.isAgg5
  z5 := Tryz.sizeOf5
  v5 := Tryz.zeroValue5
  infoByte := by kernel_rfl
  cellsByte := by kernel_rfl
  sizeByte := by kernel_rfl
  neB5 := by decide }
open Go.RowKit in
/-- (*strings.Builder).String: "String returns the accumulated string.": OF A BUILDER THAT HOLDS AT LEAST ONE BYTE. ✋ THE MODEL FREEZES THOSE BYTES IN THE BUFFER (unsafe.String): a later write INTO them ends the model's run without an answer; a later append BEHIND them goes on. The statement's order of evaluation is drawn: one draw. (LAID: no walk: one application.) -/
theorem Tryz.Builder_String (B b : Nat) (l : List UInt8) (w : World) (h : Lib.IsBuilder 280 5 B b (Lib.byteCells l) w) (h0 : l ≠ []) :
    Calls Tryz.prog 169 #[.pointer (some ⟨b, 0, none⟩)] w fun e w' => e = .returned (.string ⟨l.toArray⟩) ∧ Below B w w' := Any.Builder_String Tryz.lays169 Tryz.Builder_Extra_169 B b l w h h0
open Go.RowKit in
/-- (*strings.Builder).String OF A BUILDER THAT HOLDS NO BYTE: the empty string. (Its buffer is nil, or a row of which it has taken nothing yet; where that row has NO capacity the model lays one new block for unsafe.SliceData's 'some address'.) One draw. (LAID: no walk: one application.) -/
theorem Tryz.Builder_String_empty (B b : Nat) (w : World) (h : Lib.IsBuilder 280 5 B b [] w) (hBw : B ≤ w.heap.size) :
    Calls Tryz.prog 169 #[.pointer (some ⟨b, 0, none⟩)] w fun e w' => e = .returned (.string ⟨#[]⟩) ∧ Below B w w' := Any.Builder_String_empty Tryz.lays169 Tryz.Builder_Extra_169 B b w h hBw
open Go.RowKit in
/-- (*strings.Builder).String: "String returns the accumulated string.": WHATEVER THE BUILDER HOLDS. (LAID: no walk: one application.) -/
theorem Tryz.Builder_String_any (B b : Nat) (l : List UInt8) (w : World) (h : Lib.IsBuilder 280 5 B b (Lib.byteCells l) w) (hBw : B ≤ w.heap.size) :
    Calls Tryz.prog 169 #[.pointer (some ⟨b, 0, none⟩)] w fun e w' => e = .returned (.string ⟨l.toArray⟩) ∧ Below B w w' := Any.Builder_String_any Tryz.lays169 Tryz.Builder_Extra_169 B b l w h hBw
def Tryz.lays231_ren : Go.Shelf.Ren := ⟨fun | 231 => 162 | n => n, fun | 9 => 9 | 5 => 5 | 3 => 3 | 4 => 4 | n => n, fun | n => n⟩
theorem Tryz.lays231 : Go.Proofs.Lays.n231 Tryz.prog Tryz.lays231_ren := {
  mixed := by kernel_rfl
  f231 := Tryz.func162.trans (congrArg some (by kernel_rfl))
  t3 := Tryz.underlying3
  a3 := Tryz.isAgg3
  z3 := Tryz.sizeOf3
  v3 := Tryz.zeroValue3
  t4 := Tryz.underlying4
  a4 := Tryz.isAgg4
  z4 := Tryz.sizeOf4
  v4 := Tryz.zeroValue4
  t5 := Tryz.underlying5
  a5 := Tryz.isAgg5
  z5 := Tryz.sizeOf5
  v5 := Tryz.zeroValue5
  t9 := Tryz.underlying9
  a9 := Tryz.isAgg9
  z9 := Tryz.sizeOf9
  v9 := Tryz.zeroValue9 }
open Go.RowKit in
/-- strings.trimLeftByte (no doc; what TrimLeft and Trim call at a cutset of one ASCII byte): the leading bytes that are c are cut off. The world is as it was. (LAID: no walk: one application.) -/
theorem Tryz.strings_trimLeftByte (s : ByteArray) (c : UInt8) (w : World) :
    Calls Tryz.prog 162 #[.string s, .int .u8 c.toNat] w fun e w' => e = .returned (.string ⟨(Lib.trimLeftB s.data.toList c).toArray⟩) ∧ w' = w := Any.strings_trimLeftByte Tryz.lays231 s c w
def Tryz.lays161_ren : Go.Shelf.Ren := ⟨fun | 161 => 128 | 231 => 162 | 227 => 163 | 233 => 164 | 235 => 165 | 228 => 193 | 197 => 191 | 151 => 194 | 260 => 210 | 152 => 211 | 137 => 166 | 119 => 220 | 224 => 204 | 225 => 203 | 217 => 195 | 266 => 212 | n => n, fun | 9 => 9 | 4 => 4 | 3 => 3 | 5 => 5 | 117 => 272 | 116 => 271 | 0 => 0 | 124 => 275 | 105 => 286 | 21 => 21 | 119 => 320 | 46 => 309 | 139 => 323 | 138 => 322 | n => n, fun | 3 => 3 | 4 => 4 | n => n⟩
theorem Tryz.lays161 : Go.Proofs.Lays.n161 Tryz.prog Tryz.lays161_ren := {
  mixed := by kernel_rfl
  f119 := Tryz.func220.trans (congrArg some (by kernel_rfl))
  f137 := Tryz.func166.trans (congrArg some (by kernel_rfl))
  f151 := Tryz.func194.trans (congrArg some (by kernel_rfl))
  f152 := Tryz.func211.trans (congrArg some (by kernel_rfl))
  f161 := Tryz.func128.trans (congrArg some (by kernel_rfl))
  f197 := Tryz.func191.trans (congrArg some (by kernel_rfl))
  f217 := Tryz.func195.trans (congrArg some (by kernel_rfl))
  f224 := Tryz.func204.trans (congrArg some (by kernel_rfl))
  f225 := Tryz.func203.trans (congrArg some (by kernel_rfl))
  f227 := Tryz.func163.trans (congrArg some (by kernel_rfl))
  f228 := Tryz.func193.trans (congrArg some (by kernel_rfl))
  f231 := Tryz.func162.trans (congrArg some (by kernel_rfl))
  f233 := Tryz.func164.trans (congrArg some (by kernel_rfl))
  f235 := Tryz.func165.trans (congrArg some (by kernel_rfl))
  f260 := Tryz.func210.trans (congrArg some (by kernel_rfl))
  f266 := Tryz.func212.trans (congrArg some (by kernel_rfl))
  t0 := Tryz.underlying0
  a0 := Tryz.isAgg0
  z0 := Tryz.sizeOf0
  v0 := Tryz.zeroValue0
  t3 := Tryz.underlying3
  a3 := Tryz.isAgg3
  z3 := Tryz.sizeOf3
  v3 := Tryz.zeroValue3
  t4 := Tryz.underlying4
  a4 := Tryz.isAgg4
  z4 := Tryz.sizeOf4
  v4 := Tryz.zeroValue4
  t5 := Tryz.underlying5
  a5 := Tryz.isAgg5
  z5 := Tryz.sizeOf5
  v5 := Tryz.zeroValue5
  t9 := Tryz.underlying9
  a9 := Tryz.isAgg9
  z9 := Tryz.sizeOf9
  v9 := Tryz.zeroValue9
  t21 := Tryz.underlying21
  a21 := Tryz.isAgg21
  z21 := Tryz.sizeOf21
  v21 := Tryz.zeroValue21
  t46 := Tryz.underlying309
  a46 := Tryz.isAgg309
  z46 := Tryz.sizeOf309
  v46 := Tryz.zeroValue309
  t105 := Tryz.underlying286
  a105 := Tryz.isAgg286
  z105 := Tryz.sizeOf286
  v105 := Tryz.zeroValue286
  t116 := Tryz.underlying271
  a116 := Tryz.isAgg271
  z116 := Tryz.sizeOf271
  t117 := Tryz.underlying272
  a117 := Tryz.isAgg272
  z117 := Tryz.sizeOf272
  v117 := Tryz.zeroValue272
  t119 := Tryz.underlying320
  a119 := Tryz.isAgg320
  z119 := Tryz.sizeOf320
  t124 := Tryz.underlying275
  a124 := Tryz.isAgg275
  z124 := Tryz.sizeOf275
  v124 := Tryz.zeroValue275
  t138 := Tryz.underlying322
  a138 := Tryz.isAgg322
  z138 := Tryz.sizeOf322
  v138 := Tryz.zeroValue322
  t139 := Tryz.underlying323
  a139 := Tryz.isAgg323
  z139 := Tryz.sizeOf323
  v139 := Tryz.zeroValue323
  g3 := by kernel_rfl
  g4 := by kernel_rfl }
open Go.RowKit in
/-- strings.TrimLeft: "TrimLeft returns a slice of the string s with all leading Unicode code points contained in cutset removed.": AT A cutset OF ONE ASCII BYTE. The world is as it was. (LAID: no walk: one application.) -/
theorem Tryz.strings_TrimLeft_one (s : ByteArray) (c : UInt8) (hc : c.toNat < 128) (w : World) :
    Calls Tryz.prog 128 #[.string s, .string ⟨#[c]⟩] w fun e w' => e = .returned (.string ⟨(Lib.trimLeftB s.data.toList c).toArray⟩) ∧ w' = w := Any.strings_TrimLeft_one Tryz.lays161 s c hc w
def Tryz.lays119_ren : Go.Shelf.Ren := ⟨fun | 119 => 220 | n => n, fun | 21 => 21 | 4 => 4 | n => n, fun | n => n⟩
theorem Tryz.lays119 : Go.Proofs.Lays.n119 Tryz.prog Tryz.lays119_ren := {
  mixed := by kernel_rfl
  f119 := Tryz.func220.trans (congrArg some (by kernel_rfl))
  t4 := Tryz.underlying4
  a4 := Tryz.isAgg4
  z4 := Tryz.sizeOf4
  v4 := Tryz.zeroValue4
  t21 := Tryz.underlying21
  a21 := Tryz.isAgg21
  z21 := Tryz.sizeOf21
  v21 := Tryz.zeroValue21 }
/-- utf8.ValidRune: "ValidRune reports whether r can be legally encoded as UTF-8. Code points that are out of range or a surrogate half are illegal.": IT RETURNS 'Lib.validRune r'; the world is as it was. (LAID: no walk: one application.) -/
theorem Tryz.utf8_ValidRune (r : Int) (w : World) :
    Calls Tryz.prog 220 #[.int .i32 r] w fun e w' => e = .returned (.bool (Lib.validRune r)) ∧ w' = w := Any.utf8_ValidRune Tryz.lays119 r w
def Tryz.lays137_ren : Go.Shelf.Ren := ⟨fun | 137 => 166 | 217 => 195 | 266 => 212 | n => n, fun | 9 => 9 | 5 => 5 | 3 => 3 | n => n, fun | n => n⟩
theorem Tryz.lays137 : Go.Proofs.Lays.n137 Tryz.prog Tryz.lays137_ren := {
  mixed := by kernel_rfl
  f137 := Tryz.func166.trans (congrArg some (by kernel_rfl))
  f217 := Tryz.func195.trans (congrArg some (by kernel_rfl))
  f266 := Tryz.func212.trans (congrArg some (by kernel_rfl))
  t3 := Tryz.underlying3
  a3 := Tryz.isAgg3
  z3 := Tryz.sizeOf3
  v3 := Tryz.zeroValue3
  t5 := Tryz.underlying5
  a5 := Tryz.isAgg5
  z5 := Tryz.sizeOf5
  v5 := Tryz.zeroValue5
  t9 := Tryz.underlying9
  a9 := Tryz.isAgg9
  z9 := Tryz.sizeOf9
  v9 := Tryz.zeroValue9 }
open Go.RowKit in
/-- strings.IndexByte: "IndexByte returns the index of the first instance of c in s, or -1 if c is not present in s.": IT RETURNS 'Lib.indexByte s c'; the world is as it was. (LAID: no walk: one application.) -/
theorem Tryz.strings_IndexByte (s : ByteArray) (c : Int) (w : World) :
    Calls Tryz.prog 166 #[.string s, .int .u8 c] w fun e w' => e = .returned (.int .i64 (Lib.indexByte s.data.toList c.toNat.toUInt8)) ∧ w' = w := Any.strings_IndexByte Tryz.lays137 s c w
open Go.RowKit in
/-- (*strings.Builder).String: "String returns the accumulated string.": OF A BUILDER THAT HOLDS AT LEAST ONE BYTE. ✋ THE MODEL FREEZES THOSE BYTES IN THE BUFFER (unsafe.String): a later write INTO them ends the model's run without an answer; a later append BEHIND them goes on. The statement's order of evaluation is drawn: one draw. THE FORM '_f': IT SAYS BESIDES THAT THE BUILDER IS A BUILDER STILL ('Lib.IsBuilderF', the same bytes): SO IT CAN BE WRITTEN ON: 'b.WriteString(b.String()[:k])'. (LAID: no walk: one application.) -/
theorem Tryz.Builder_String_f (B b : Nat) (l : List UInt8) (w : World) (h : Lib.IsBuilderF 280 5 B b (Lib.byteCells l) w) (h0 : l ≠ []) :
    Calls Tryz.prog 169 #[.pointer (some ⟨b, 0, none⟩)] w fun e w' => e = .returned (.string ⟨l.toArray⟩) ∧ (Lib.IsBuilderF 280 5 B b (Lib.byteCells l) w' ∧ Below B w w') := Any.Builder_String_f Tryz.lays169 Tryz.Builder_Extra_169 B b l w h h0
open Go.RowKit in
/-- (*strings.Builder).String OF A BUILDER THAT HOLDS NO BYTE: the empty string; THE FORM '_f': a builder still. (LAID: no walk: one application.) -/
theorem Tryz.Builder_String_empty_f (B b : Nat) (w : World) (h : Lib.IsBuilderF 280 5 B b [] w) (hBw : B ≤ w.heap.size) :
    Calls Tryz.prog 169 #[.pointer (some ⟨b, 0, none⟩)] w fun e w' => e = .returned (.string ⟨#[]⟩) ∧ (Lib.IsBuilderF 280 5 B b [] w' ∧ Below B w w') := Any.Builder_String_empty_f Tryz.lays169 Tryz.Builder_Extra_169 B b w h hBw
open Go.RowKit in
/-- (*strings.Builder).String: "String returns the accumulated string.": WHATEVER THE BUILDER HOLDS; THE FORM '_f': OF A BUILDER THAT MAY HAVE BEEN READ BEFORE; AND IT IS A BUILDER STILL, holding the same bytes: it can be written on. (LAID: no walk: one application.) -/
theorem Tryz.Builder_String_any_f (B b : Nat) (l : List UInt8) (w : World) (h : Lib.IsBuilderF 280 5 B b (Lib.byteCells l) w) (hBw : B ≤ w.heap.size) :
    Calls Tryz.prog 169 #[.pointer (some ⟨b, 0, none⟩)] w fun e w' => e = .returned (.string ⟨l.toArray⟩) ∧ (Lib.IsBuilderF 280 5 B b (Lib.byteCells l) w' ∧ Below B w w') := Any.Builder_String_any_f Tryz.lays169 Tryz.Builder_Extra_169 B b l w h hBw
open Go.RowKit in
/-- (*strings.Builder).String: "String returns the accumulated string.": OF A BUILDER THAT HOLDS AT LEAST ONE BYTE. ✋ THE MODEL FREEZES THOSE BYTES IN THE BUFFER (unsafe.String): a later write INTO them ends the model's run without an answer; a later append BEHIND them goes on. The statement's order of evaluation is drawn: one draw. THE FORM '_k': OVER 'Lib.IsBuilderF' (a builder that 'String()' may have read), AND WITH THE FRAME THAT REACHES ABOVE THE BUILDER: 'Lib.OthersKept': every block that is not b and is no row of uint8's stands as it stood: the iterator of a range among them. (LAID: no walk: one application.) -/
theorem Tryz.Builder_String_k (B b : Nat) (l : List UInt8) (w : World) (h : Lib.IsBuilderF 280 5 B b (Lib.byteCells l) w) (h0 : l ≠ []) :
    Calls Tryz.prog 169 #[.pointer (some ⟨b, 0, none⟩)] w fun e w' => e = .returned (.string ⟨l.toArray⟩) ∧ (Lib.IsBuilderF 280 5 B b (Lib.byteCells l) w' ∧ Below B w w' ∧ Lib.OthersKept 5 (some b) w w') := Any.Builder_String_k Tryz.lays169 Tryz.Builder_Extra_169 B b l w h h0
open Go.RowKit in
/-- (*strings.Builder).String OF A BUILDER THAT HOLDS NO BYTE: the empty string; THE FORM '_k': OVER 'Lib.IsBuilderF' (a builder that 'String()' may have read), AND WITH THE FRAME THAT REACHES ABOVE THE BUILDER: 'Lib.OthersKept': every block that is not b and is no row of uint8's stands as it stood: the iterator of a range among them. (LAID: no walk: one application.) -/
theorem Tryz.Builder_String_empty_k (B b : Nat) (w : World) (h : Lib.IsBuilderF 280 5 B b [] w) (hBw : B ≤ w.heap.size) :
    Calls Tryz.prog 169 #[.pointer (some ⟨b, 0, none⟩)] w fun e w' => e = .returned (.string ⟨#[]⟩) ∧ (Lib.IsBuilderF 280 5 B b [] w' ∧ Below B w w' ∧ Lib.OthersKept 5 (some b) w w') := Any.Builder_String_empty_k Tryz.lays169 Tryz.Builder_Extra_169 B b w h hBw
open Go.RowKit in
/-- (*strings.Builder).String: "String returns the accumulated string.": WHATEVER THE BUILDER HOLDS; THE FORM '_k': OVER 'Lib.IsBuilderF' (a builder that 'String()' may have read), AND WITH THE FRAME THAT REACHES ABOVE THE BUILDER: 'Lib.OthersKept': every block that is not b and is no row of uint8's stands as it stood: the iterator of a range among them. (LAID: no walk: one application.) -/
theorem Tryz.Builder_String_any_k (B b : Nat) (l : List UInt8) (w : World) (h : Lib.IsBuilderF 280 5 B b (Lib.byteCells l) w) (hBw : B ≤ w.heap.size) :
    Calls Tryz.prog 169 #[.pointer (some ⟨b, 0, none⟩)] w fun e w' => e = .returned (.string ⟨l.toArray⟩) ∧ (Lib.IsBuilderF 280 5 B b (Lib.byteCells l) w' ∧ Below B w w' ∧ Lib.OthersKept 5 (some b) w w') := Any.Builder_String_any_k Tryz.lays169 Tryz.Builder_Extra_169 B b l w h hBw
def Tryz.lays195_ren : Go.Shelf.Ren := ⟨fun | 195 => 190 | n => n, fun | 9 => 9 | 3 => 3 | 0 => 0 | 4 => 4 | n => n, fun | n => n⟩
theorem Tryz.lays195 : Go.Proofs.Lays.n195 Tryz.prog Tryz.lays195_ren := {
  mixed := by kernel_rfl
  f195 := Tryz.func190.trans (congrArg some (by kernel_rfl))
  t0 := Tryz.underlying0
  a0 := Tryz.isAgg0
  z0 := Tryz.sizeOf0
  v0 := Tryz.zeroValue0
  t3 := Tryz.underlying3
  a3 := Tryz.isAgg3
  z3 := Tryz.sizeOf3
  v3 := Tryz.zeroValue3
  t4 := Tryz.underlying4
  a4 := Tryz.isAgg4
  z4 := Tryz.sizeOf4
  v4 := Tryz.zeroValue4
  t9 := Tryz.underlying9
  a9 := Tryz.isAgg9
  z9 := Tryz.sizeOf9
  v9 := Tryz.zeroValue9 }
open Go.RowKit in
/-- unicode/utf8.RuneCountInString: "RuneCountInString is like RuneCount but its input is a string." ("RuneCount returns the number of runes in p. Erroneous and short encodings are treated as single runes of width 1 byte."): EVERY STRING, valid UTF-8 or not: 'Lib.runeCount s' (plain Lean over the model's own 'Utf8.decode'; 'Lib.runeCount_le': at most len(s); 'Lib.runeCount_ascii': on ASCII: len(s)). THE ONE CONDITION: len(s) below 2^63 - 1 (the counter does not wrap): the form's reach pays it. THE WORLD BEHIND THE CALL: ONE BLOCK MORE: the model's iterator over s, at its end: all else as it was. (LAID: no walk: one application.) -/
theorem Tryz.utf8_RuneCountInString (s : ByteArray) (w : World) (hs : s.size < 9223372036854775807) :
    Calls Tryz.prog 190 #[.string s] w fun e w' => e = .returned (.int .i64 (Lib.runeCount s)) ∧ ∃ pos, w' = w.iter s pos := Any.utf8_RuneCountInString Tryz.lays195 s w hs
def Tryz.lays217_ren : Go.Shelf.Ren := ⟨fun | 217 => 195 | 266 => 212 | n => n, fun | 9 => 9 | 5 => 5 | 3 => 3 | n => n, fun | n => n⟩
theorem Tryz.lays217 : Go.Proofs.Lays.n217 Tryz.prog Tryz.lays217_ren := {
  mixed := by kernel_rfl
  f217 := Tryz.func195.trans (congrArg some (by kernel_rfl))
  f266 := Tryz.func212.trans (congrArg some (by kernel_rfl))
  t3 := Tryz.underlying3
  a3 := Tryz.isAgg3
  z3 := Tryz.sizeOf3
  v3 := Tryz.zeroValue3
  t5 := Tryz.underlying5
  a5 := Tryz.isAgg5
  z5 := Tryz.sizeOf5
  v5 := Tryz.zeroValue5
  t9 := Tryz.underlying9
  a9 := Tryz.isAgg9
  z9 := Tryz.sizeOf9
  v9 := Tryz.zeroValue9 }
open Go.RowKit Go.Lib in
/-- internal/stringslite.IndexByte (what strings.IndexByte calls): IT RETURNS 'Lib.indexByte s c'; the world is as it was. (LAID: no walk: one application.) -/
theorem Tryz.stringslite_IndexByte (s : ByteArray) (c : Int) (w : World) :
    Calls Tryz.prog 195 #[.string s, .int .u8 c] w fun e w' => e = .returned (.int .i64 (Lib.indexByte s.data.toList c.toNat.toUInt8)) ∧ w' = w := Any.stringslite_IndexByte Tryz.lays217 s c w
def Tryz.lays224_ren : Go.Shelf.Ren := ⟨fun | 224 => 204 | n => n, fun | 3 => 3 | n => n, fun | n => n⟩
theorem Tryz.lays224 : Go.Proofs.Lays.n224 Tryz.prog Tryz.lays224_ren := {
  mixed := by kernel_rfl
  f224 := Tryz.func204.trans (congrArg some (by kernel_rfl))
  t3 := Tryz.underlying3
  a3 := Tryz.isAgg3
  z3 := Tryz.sizeOf3
  v3 := Tryz.zeroValue3 }
open Go.RowKit Go.Lib in
/-- internal/bytealg.Cutover: "Cutover reports the number of failures of IndexByte we should tolerate before switching over to Index. n is the number of bytes processed so far.": on amd64: (n + 16) / 8. (LAID: no walk: one application.) -/
theorem Tryz.bytealg_Cutover (n : Int) (h0 : 0 ≤ n) (h1 : n < 4611686018427387904) (w : World) :
    Calls Tryz.prog 204 #[.int .i64 n] w fun e w' => e = .returned (.int .i64 ((n + 16) / 8)) ∧ w' = w := Any.bytealg_Cutover Tryz.lays224 n h0 h1 w
def Tryz.lays314_ren : Go.Shelf.Ren := ⟨fun | 314 => 219 | n => n, fun | 9 => 9 | 51 => 324 | 3 => 3 | 4 => 4 | 5 => 5 | 46 => 309 | n => n, fun | n => n⟩
theorem Tryz.lays314 : Go.Proofs.Lays.n314 Tryz.prog Tryz.lays314_ren := {
  mixed := by kernel_rfl
  f314 := Tryz.func219.trans (congrArg some (by kernel_rfl))
  t3 := Tryz.underlying3
  a3 := Tryz.isAgg3
  z3 := Tryz.sizeOf3
  v3 := Tryz.zeroValue3
  t4 := Tryz.underlying4
  a4 := Tryz.isAgg4
  z4 := Tryz.sizeOf4
  v4 := Tryz.zeroValue4
  t5 := Tryz.underlying5
  a5 := Tryz.isAgg5
  z5 := Tryz.sizeOf5
  v5 := Tryz.zeroValue5
  t9 := Tryz.underlying9
  a9 := Tryz.isAgg9
  z9 := Tryz.sizeOf9
  v9 := Tryz.zeroValue9
  t46 := Tryz.underlying309
  a46 := Tryz.isAgg309
  z46 := Tryz.sizeOf309
  v46 := Tryz.zeroValue309
  t51 := Tryz.underlying324
  a51 := Tryz.isAgg324
  z51 := Tryz.sizeOf324
  v51 := Tryz.zeroValue324 }
open Go.RowKit Go.Lib in
/-- hashStr: "returns the hash and the appropriate multiplicative factor for use in Rabin-Karp algorithm": THE HASH OF ALL OF sep, AND 16777619 ^ len(sep), both in uint32. (LAID: no walk: one application.) -/
theorem Tryz.bytealg_hashStr (sep : ByteArray) (hs : sep.size < 4294967281) (w : World) :
    Calls Tryz.prog 219 #[.string sep] w fun e w' => e = .returned (.tuple #[.int .u32 (RK.H sep.data.toList % 4294967296), .int .u32 (16777619 ^ sep.size % 4294967296)]) ∧ w' = w := Any.bytealg_hashStr Tryz.lays314 sep hs w
def Tryz.lays267_ren : Go.Shelf.Ren := ⟨fun | 267 => 205 | 314 => 219 | n => n, fun | 9 => 9 | 3 => 3 | 146 => 325 | 51 => 324 | 4 => 4 | 5 => 5 | 46 => 309 | n => n, fun | n => n⟩
theorem Tryz.lays267 : Go.Proofs.Lays.n267 Tryz.prog Tryz.lays267_ren := {
  mixed := by kernel_rfl
  f267 := Tryz.func205.trans (congrArg some (by kernel_rfl))
  f314 := Tryz.func219.trans (congrArg some (by kernel_rfl))
  t3 := Tryz.underlying3
  a3 := Tryz.isAgg3
  z3 := Tryz.sizeOf3
  v3 := Tryz.zeroValue3
  t4 := Tryz.underlying4
  a4 := Tryz.isAgg4
  z4 := Tryz.sizeOf4
  v4 := Tryz.zeroValue4
  t5 := Tryz.underlying5
  a5 := Tryz.isAgg5
  z5 := Tryz.sizeOf5
  v5 := Tryz.zeroValue5
  t9 := Tryz.underlying9
  a9 := Tryz.isAgg9
  z9 := Tryz.sizeOf9
  v9 := Tryz.zeroValue9
  t46 := Tryz.underlying309
  a46 := Tryz.isAgg309
  z46 := Tryz.sizeOf309
  v46 := Tryz.zeroValue309
  t51 := Tryz.underlying324
  a51 := Tryz.isAgg324
  z51 := Tryz.sizeOf324
  v51 := Tryz.zeroValue324
  t146 := Tryz.underlying325
  a146 := Tryz.isAgg325
  z146 := Tryz.sizeOf325
  v146 := Tryz.zeroValue325 }
open Go.RowKit Go.Lib in
theorem Tryz.bytealg_IndexRabinKarp (s sep : ByteArray) (h1 : 1 ≤ sep.size) (h2 : sep.size ≤ s.size) (hs : s.size < 4294967281) (w : World) :
    Calls Tryz.prog 205 #[.string s, .string sep] w fun e w' => e = .returned (.int .i64 (Lib.index s.data.toList sep.data.toList)) ∧ w' = w := Any.bytealg_IndexRabinKarp Tryz.lays267 s sep h1 h2 hs w
def Tryz.lays219_ren : Go.Shelf.Ren := ⟨fun | 219 => 181 | 217 => 195 | 225 => 203 | 224 => 204 | 267 => 205 | 266 => 212 | 314 => 219 | n => n, fun | 9 => 9 | 3 => 3 | 4 => 4 | 5 => 5 | 46 => 309 | 146 => 325 | 51 => 324 | n => n, fun | 1 => 2 | n => n⟩
theorem Tryz.lays219 : Go.Proofs.Lays.n219 Tryz.prog Tryz.lays219_ren := {
  mixed := by kernel_rfl
  f217 := Tryz.func195.trans (congrArg some (by kernel_rfl))
  f219 := Tryz.func181.trans (congrArg some (by kernel_rfl))
  f224 := Tryz.func204.trans (congrArg some (by kernel_rfl))
  f225 := Tryz.func203.trans (congrArg some (by kernel_rfl))
  f266 := Tryz.func212.trans (congrArg some (by kernel_rfl))
  f267 := Tryz.func205.trans (congrArg some (by kernel_rfl))
  f314 := Tryz.func219.trans (congrArg some (by kernel_rfl))
  t3 := Tryz.underlying3
  a3 := Tryz.isAgg3
  z3 := Tryz.sizeOf3
  v3 := Tryz.zeroValue3
  t4 := Tryz.underlying4
  a4 := Tryz.isAgg4
  z4 := Tryz.sizeOf4
  v4 := Tryz.zeroValue4
  t5 := Tryz.underlying5
  a5 := Tryz.isAgg5
  z5 := Tryz.sizeOf5
  v5 := Tryz.zeroValue5
  t9 := Tryz.underlying9
  a9 := Tryz.isAgg9
  z9 := Tryz.sizeOf9
  v9 := Tryz.zeroValue9
  t46 := Tryz.underlying309
  a46 := Tryz.isAgg309
  z46 := Tryz.sizeOf309
  v46 := Tryz.zeroValue309
  t51 := Tryz.underlying324
  a51 := Tryz.isAgg324
  z51 := Tryz.sizeOf324
  v51 := Tryz.zeroValue324
  t146 := Tryz.underlying325
  a146 := Tryz.isAgg325
  z146 := Tryz.sizeOf325
  v146 := Tryz.zeroValue325
  g1 := by kernel_rfl }
open Go.RowKit Go.Lib in
/-- internal/stringslite.Index (what strings.Index calls) AT A substr OF ONE BYTE c: IT RETURNS 'Lib.indexByte s c'; the world is as it was. (LAID: no walk: one application.) -/
theorem Tryz.stringslite_Index_one (s : ByteArray) (c : UInt8) (w : World) :
    Calls Tryz.prog 181 #[.string s, .string ⟨#[c]⟩] w fun e w' => e = .returned (.int .i64 (Lib.indexByte s.data.toList c)) ∧ w' = w := Any.stringslite_Index_one Tryz.lays219 s c w
open Go.RowKit Go.Lib in
/-- internal/stringslite.Index (what strings.Index calls) AT A substr OF WHATEVER LENGTH: IT RETURNS 'Lib.index s substr'; the world is as it was. 'm': what internal/bytealg.MaxLen holds: whatever. (LAID: no walk: one application.) -/
theorem Tryz.stringslite_Index (s sub : ByteArray) (m : Int) (w : World) (hs : s.size < 4294967281) (hm : w.cell? ⟨2, 0, none⟩ = some (.int .i64 m)) :
    Calls Tryz.prog 181 #[.string s, .string sub] w fun e w' => e = .returned (.int .i64 (Lib.index s.data.toList sub.data.toList)) ∧ w' = w := Any.stringslite_Index Tryz.lays219 s sub m w hs hm
def Tryz.lays143_ren : Go.Shelf.Ren := ⟨fun | 143 => 153 | 219 => 181 | 217 => 195 | 225 => 203 | 224 => 204 | 267 => 205 | 266 => 212 | 314 => 219 | n => n, fun | 9 => 9 | 3 => 3 | 4 => 4 | 5 => 5 | 46 => 309 | 146 => 325 | 51 => 324 | n => n, fun | 1 => 2 | n => n⟩
theorem Tryz.lays143 : Go.Proofs.Lays.n143 Tryz.prog Tryz.lays143_ren := {
  mixed := by kernel_rfl
  f143 := Tryz.func153.trans (congrArg some (by kernel_rfl))
  f217 := Tryz.func195.trans (congrArg some (by kernel_rfl))
  f219 := Tryz.func181.trans (congrArg some (by kernel_rfl))
  f224 := Tryz.func204.trans (congrArg some (by kernel_rfl))
  f225 := Tryz.func203.trans (congrArg some (by kernel_rfl))
  f266 := Tryz.func212.trans (congrArg some (by kernel_rfl))
  f267 := Tryz.func205.trans (congrArg some (by kernel_rfl))
  f314 := Tryz.func219.trans (congrArg some (by kernel_rfl))
  t3 := Tryz.underlying3
  a3 := Tryz.isAgg3
  z3 := Tryz.sizeOf3
  v3 := Tryz.zeroValue3
  t4 := Tryz.underlying4
  a4 := Tryz.isAgg4
  z4 := Tryz.sizeOf4
  v4 := Tryz.zeroValue4
  t5 := Tryz.underlying5
  a5 := Tryz.isAgg5
  z5 := Tryz.sizeOf5
  v5 := Tryz.zeroValue5
  t9 := Tryz.underlying9
  a9 := Tryz.isAgg9
  z9 := Tryz.sizeOf9
  v9 := Tryz.zeroValue9
  t46 := Tryz.underlying309
  a46 := Tryz.isAgg309
  z46 := Tryz.sizeOf309
  v46 := Tryz.zeroValue309
  t51 := Tryz.underlying324
  a51 := Tryz.isAgg324
  z51 := Tryz.sizeOf324
  v51 := Tryz.zeroValue324
  t146 := Tryz.underlying325
  a146 := Tryz.isAgg325
  z146 := Tryz.sizeOf325
  v146 := Tryz.zeroValue325
  g1 := by kernel_rfl }
open Go.RowKit Go.Lib in
/-- strings.Index: "Index returns the index of the first instance of substr in s, or -1 if substr is not present in s.": AT A substr OF ONE BYTE c: IT RETURNS 'Lib.indexByte s c'; the world is as it was. (LAID: no walk: one application.) -/
theorem Tryz.strings_Index_one (s : ByteArray) (c : UInt8) (w : World) :
    Calls Tryz.prog 153 #[.string s, .string ⟨#[c]⟩] w fun e w' => e = .returned (.int .i64 (Lib.indexByte s.data.toList c)) ∧ w' = w := Any.strings_Index_one Tryz.lays143 s c w
open Go.RowKit Go.Lib in
/-- strings.Index: "Index returns the index of the first instance of substr in s, or -1 if substr is not present in s.": IT RETURNS 'Lib.index s substr'; the world is as it was. (LAID: no walk: one application.) -/
theorem Tryz.strings_Index (s sub : ByteArray) (m : Int) (w : World) (hs : s.size < 4294967281) (hm : w.cell? ⟨2, 0, none⟩ = some (.int .i64 m)) :
    Calls Tryz.prog 153 #[.string s, .string sub] w fun e w' => e = .returned (.int .i64 (Lib.index s.data.toList sub.data.toList)) ∧ w' = w := Any.strings_Index Tryz.lays143 s sub m w hs hm
def Tryz.lays220_ren : Go.Shelf.Ren := ⟨fun | 220 => 161 | 219 => 181 | 217 => 195 | 225 => 203 | 224 => 204 | 267 => 205 | 266 => 212 | 314 => 219 | n => n, fun | 9 => 9 | 4 => 4 | 3 => 3 | 5 => 5 | 46 => 309 | 146 => 325 | 51 => 324 | n => n, fun | 1 => 2 | n => n⟩
theorem Tryz.lays220 : Go.Proofs.Lays.n220 Tryz.prog Tryz.lays220_ren := {
  mixed := by kernel_rfl
  f217 := Tryz.func195.trans (congrArg some (by kernel_rfl))
  f219 := Tryz.func181.trans (congrArg some (by kernel_rfl))
  f220 := Tryz.func161.trans (congrArg some (by kernel_rfl))
  f224 := Tryz.func204.trans (congrArg some (by kernel_rfl))
  f225 := Tryz.func203.trans (congrArg some (by kernel_rfl))
  f266 := Tryz.func212.trans (congrArg some (by kernel_rfl))
  f267 := Tryz.func205.trans (congrArg some (by kernel_rfl))
  f314 := Tryz.func219.trans (congrArg some (by kernel_rfl))
  t3 := Tryz.underlying3
  a3 := Tryz.isAgg3
  z3 := Tryz.sizeOf3
  v3 := Tryz.zeroValue3
  t4 := Tryz.underlying4
  a4 := Tryz.isAgg4
  z4 := Tryz.sizeOf4
  v4 := Tryz.zeroValue4
  t5 := Tryz.underlying5
  a5 := Tryz.isAgg5
  z5 := Tryz.sizeOf5
  v5 := Tryz.zeroValue5
  t9 := Tryz.underlying9
  a9 := Tryz.isAgg9
  z9 := Tryz.sizeOf9
  v9 := Tryz.zeroValue9
  t46 := Tryz.underlying309
  a46 := Tryz.isAgg309
  z46 := Tryz.sizeOf309
  v46 := Tryz.zeroValue309
  t51 := Tryz.underlying324
  a51 := Tryz.isAgg324
  z51 := Tryz.sizeOf324
  v51 := Tryz.zeroValue324
  t146 := Tryz.underlying325
  a146 := Tryz.isAgg325
  z146 := Tryz.sizeOf325
  v146 := Tryz.zeroValue325
  g1 := by kernel_rfl }
open Go.RowKit Go.Lib in
/-- internal/stringslite.Cut (what strings.Cut calls): IT RETURNS 'Lib.cut s sep'; the world is as it was but for the count of draws. (LAID: no walk: one application.) -/
theorem Tryz.stringslite_Cut (s sep : ByteArray) (m : Int) (w : World) (hs : s.size < 4294967281) (hm : w.cell? ⟨2, 0, none⟩ = some (.int .i64 m)) :
    Calls Tryz.prog 161 #[.string s, .string sep] w fun e w' => e = .returned (.tuple #[.string ⟨(Lib.cut s.data.toList sep.data.toList).1.toArray⟩, .string ⟨(Lib.cut s.data.toList sep.data.toList).2.1.toArray⟩, .bool (Lib.cut s.data.toList sep.data.toList).2.2]) ∧ ∃ n, w' = w.drewN n := Any.stringslite_Cut Tryz.lays220 s sep m w hs hm
def Tryz.lays145_ren : Go.Shelf.Ren := ⟨fun | 145 => 125 | 220 => 161 | 219 => 181 | 217 => 195 | 225 => 203 | 224 => 204 | 267 => 205 | 266 => 212 | 314 => 219 | n => n, fun | 9 => 9 | 4 => 4 | 59 => 229 | 3 => 3 | 5 => 5 | 46 => 309 | 146 => 325 | 51 => 324 | n => n, fun | 1 => 2 | n => n⟩
theorem Tryz.lays145 : Go.Proofs.Lays.n145 Tryz.prog Tryz.lays145_ren := {
  mixed := by kernel_rfl
  f145 := Tryz.func125.trans (congrArg some (by kernel_rfl))
  f217 := Tryz.func195.trans (congrArg some (by kernel_rfl))
  f219 := Tryz.func181.trans (congrArg some (by kernel_rfl))
  f220 := Tryz.func161.trans (congrArg some (by kernel_rfl))
  f224 := Tryz.func204.trans (congrArg some (by kernel_rfl))
  f225 := Tryz.func203.trans (congrArg some (by kernel_rfl))
  f266 := Tryz.func212.trans (congrArg some (by kernel_rfl))
  f267 := Tryz.func205.trans (congrArg some (by kernel_rfl))
  f314 := Tryz.func219.trans (congrArg some (by kernel_rfl))
  t3 := Tryz.underlying3
  a3 := Tryz.isAgg3
  z3 := Tryz.sizeOf3
  v3 := Tryz.zeroValue3
  t4 := Tryz.underlying4
  a4 := Tryz.isAgg4
  z4 := Tryz.sizeOf4
  v4 := Tryz.zeroValue4
  t5 := Tryz.underlying5
  a5 := Tryz.isAgg5
  z5 := Tryz.sizeOf5
  v5 := Tryz.zeroValue5
  t9 := Tryz.underlying9
  a9 := Tryz.isAgg9
  z9 := Tryz.sizeOf9
  v9 := Tryz.zeroValue9
  t46 := Tryz.underlying309
  a46 := Tryz.isAgg309
  z46 := Tryz.sizeOf309
  v46 := Tryz.zeroValue309
  t51 := Tryz.underlying324
  a51 := Tryz.isAgg324
  z51 := Tryz.sizeOf324
  v51 := Tryz.zeroValue324
  t59 := Tryz.underlying229
  a59 := Tryz.isAgg229
  z59 := Tryz.sizeOf229
  v59 := Tryz.zeroValue229
  t146 := Tryz.underlying325
  a146 := Tryz.isAgg325
  z146 := Tryz.sizeOf325
  v146 := Tryz.zeroValue325
  g1 := by kernel_rfl }
open Go.RowKit Go.Lib in
/-- strings.Cut: "Cut slices s around the first instance of sep, returning the text before and after sep. The found result reports whether sep appears in s. If sep does not appear in s, cut returns s, "", false.": IT RETURNS 'Lib.cut s sep'; the world is as it was but for the count of draws. (LAID: no walk: one application.) -/
theorem Tryz.strings_Cut (s sep : ByteArray) (m : Int) (w : World) (hs : s.size < 4294967281) (hm : w.cell? ⟨2, 0, none⟩ = some (.int .i64 m)) :
    Calls Tryz.prog 125 #[.string s, .string sep] w fun e w' => e = .returned (.tuple #[.string ⟨(Lib.cut s.data.toList sep.data.toList).1.toArray⟩, .string ⟨(Lib.cut s.data.toList sep.data.toList).2.1.toArray⟩, .bool (Lib.cut s.data.toList sep.data.toList).2.2]) ∧ ∃ n, w' = w.drewN n := Any.strings_Cut Tryz.lays145 s sep m w hs hm
def Tryz.lays138_ren : Go.Shelf.Ren := ⟨fun | 138 => 160 | 195 => 190 | 218 => 192 | 143 => 153 | 219 => 181 | 217 => 195 | 225 => 203 | 224 => 204 | 267 => 205 | 266 => 212 | 314 => 219 | n => n, fun | 9 => 9 | 3 => 3 | 4 => 4 | 5 => 5 | 0 => 0 | 46 => 309 | 146 => 325 | 51 => 324 | n => n, fun | 1 => 2 | n => n⟩
theorem Tryz.lays138 : Go.Proofs.Lays.n138 Tryz.prog Tryz.lays138_ren := {
  mixed := by kernel_rfl
  f138 := Tryz.func160.trans (congrArg some (by kernel_rfl))
  f143 := Tryz.func153.trans (congrArg some (by kernel_rfl))
  f195 := Tryz.func190.trans (congrArg some (by kernel_rfl))
  f217 := Tryz.func195.trans (congrArg some (by kernel_rfl))
  f218 := Tryz.func192.trans (congrArg some (by kernel_rfl))
  f219 := Tryz.func181.trans (congrArg some (by kernel_rfl))
  f224 := Tryz.func204.trans (congrArg some (by kernel_rfl))
  f225 := Tryz.func203.trans (congrArg some (by kernel_rfl))
  f266 := Tryz.func212.trans (congrArg some (by kernel_rfl))
  f267 := Tryz.func205.trans (congrArg some (by kernel_rfl))
  f314 := Tryz.func219.trans (congrArg some (by kernel_rfl))
  t0 := Tryz.underlying0
  a0 := Tryz.isAgg0
  z0 := Tryz.sizeOf0
  v0 := Tryz.zeroValue0
  t3 := Tryz.underlying3
  a3 := Tryz.isAgg3
  z3 := Tryz.sizeOf3
  v3 := Tryz.zeroValue3
  t4 := Tryz.underlying4
  a4 := Tryz.isAgg4
  z4 := Tryz.sizeOf4
  v4 := Tryz.zeroValue4
  t5 := Tryz.underlying5
  a5 := Tryz.isAgg5
  z5 := Tryz.sizeOf5
  v5 := Tryz.zeroValue5
  t9 := Tryz.underlying9
  a9 := Tryz.isAgg9
  z9 := Tryz.sizeOf9
  v9 := Tryz.zeroValue9
  t46 := Tryz.underlying309
  a46 := Tryz.isAgg309
  z46 := Tryz.sizeOf309
  v46 := Tryz.zeroValue309
  t51 := Tryz.underlying324
  a51 := Tryz.isAgg324
  z51 := Tryz.sizeOf324
  v51 := Tryz.zeroValue324
  t146 := Tryz.underlying325
  a146 := Tryz.isAgg325
  z146 := Tryz.sizeOf325
  v146 := Tryz.zeroValue325
  g1 := by kernel_rfl }
open Go.RowKit Go.Lib in
/-- strings.Count AT A substr OF ONE BYTE ('hp'): "Count counts the number of non-overlapping instances of substr in s.": IT RETURNS 'Lib.countByte s (that byte)'; the world is as it was. ✋ NO CONTRACT HERE YET at an empty substr (utf8.RuneCountInString) or at a longer one (a loop over strings.Index). (LAID: no walk: one application.) -/
theorem Tryz.strings_Count_one (s : ByteArray) (c : UInt8) (w : World) :
    Calls Tryz.prog 160 #[.string s, .string ⟨#[c]⟩] w fun e w' => e = .returned (.int .i64 (Lib.countByte s.data.toList c)) ∧ w' = w := Any.strings_Count_one Tryz.lays138 s c w
open Go.RowKit Go.Lib in
/-- strings.Count AT A substr OF TWO BYTES OR MORE: "Count counts the number of non-overlapping instances of substr in s.": IT RETURNS 'Lib.count s substr'; the world is as it was. (LAID: no walk: one application.) -/
theorem Tryz.strings_Count (s sub : ByteArray) (m : Int) (w : World) (hs : s.size < 4294967281) (hm : w.cell? ⟨2, 0, none⟩ = some (.int .i64 m)) (h2 : 2 ≤ sub.size) :
    Calls Tryz.prog 160 #[.string s, .string sub] w fun e w' => e = .returned (.int .i64 (Lib.countB s sub)) ∧ w' = w := Any.strings_Count Tryz.lays138 s sub m w hs hm h2
def Tryz.laysM219_ren : Go.Shelf.Ren := ⟨fun | 219 => 181 | 217 => 195 | 225 => 203 | 224 => 204 | 267 => 205 | 266 => 212 | 314 => 219 | n => n, fun | 9 => 9 | 3 => 3 | 4 => 4 | 5 => 5 | 46 => 309 | 146 => 325 | 51 => 324 | n => n, fun | 1 => 2 | n => n⟩
theorem Tryz.laysM219 : Go.Proofs.LaysM.n219 Tryz.prog Tryz.laysM219_ren := {
  mixed := by kernel_rfl
  f217 := Tryz.func195.trans (congrArg some (by kernel_rfl))
  f219 := Tryz.func181.trans (congrArg some (by kernel_rfl))
  f224 := Tryz.func204.trans (congrArg some (by kernel_rfl))
  f225 := Tryz.func203.trans (congrArg some (by kernel_rfl))
  f266 := Tryz.func212.trans (congrArg some (by kernel_rfl))
  f267 := Tryz.func205.trans (congrArg some (by kernel_rfl))
  f314 := Tryz.func219.trans (congrArg some (by kernel_rfl))
  t3 := Tryz.underlying3
  a3 := Tryz.isAgg3
  z3 := Tryz.sizeOf3
  v3 := Tryz.zeroValue3
  t4 := Tryz.underlying4
  a4 := Tryz.isAgg4
  z4 := Tryz.sizeOf4
  v4 := Tryz.zeroValue4
  t5 := Tryz.underlying5
  a5 := Tryz.isAgg5
  z5 := Tryz.sizeOf5
  v5 := Tryz.zeroValue5
  t9 := Tryz.underlying9
  a9 := Tryz.isAgg9
  z9 := Tryz.sizeOf9
  v9 := Tryz.zeroValue9
  t46 := Tryz.underlying309
  a46 := Tryz.isAgg309
  z46 := Tryz.sizeOf309
  v46 := Tryz.zeroValue309
  t51 := Tryz.underlying324
  a51 := Tryz.isAgg324
  z51 := Tryz.sizeOf324
  v51 := Tryz.zeroValue324
  t146 := Tryz.underlying325
  a146 := Tryz.isAgg325
  z146 := Tryz.sizeOf325
  v146 := Tryz.zeroValue325
  g1 := by kernel_rfl
  i3 := by kernel_rfl
  i4 := by kernel_rfl
  i5 := by kernel_rfl
  i9 := by kernel_rfl
  i46 := by kernel_rfl
  i51 := by kernel_rfl
  i146 := by kernel_rfl
  m1 := by kernel_rfl
  s1_3 := fun w h => Go.Proofs.cell_of_shapedOpen_int (zero := #[.int .i64 0]) (t := 3) h (of_decide_eq_true (by kernel_rfl)) (by kernel_rfl) rfl (by kernel_rfl) (by kernel_rfl) Tryz.underlying3 }
open Go.RowKit Go.Lib in
theorem Tryz.stringslite_Index_shaped (s sub : ByteArray) (w : World) (h : w.ShapedOpen Tryz.prog) (hs : s.size < 4294967281) :
    Calls Tryz.prog 181 #[.string s, .string sub] w fun e w' => e = .returned (.int .i64 (Lib.index s.data.toList sub.data.toList)) ∧ w' = w := Any.stringslite_Index_shaped Tryz.laysM219 s sub w h hs
def Tryz.laysM143_ren : Go.Shelf.Ren := ⟨fun | 143 => 153 | 219 => 181 | 217 => 195 | 225 => 203 | 224 => 204 | 267 => 205 | 266 => 212 | 314 => 219 | n => n, fun | 9 => 9 | 3 => 3 | 4 => 4 | 5 => 5 | 46 => 309 | 146 => 325 | 51 => 324 | n => n, fun | 1 => 2 | n => n⟩
theorem Tryz.laysM143 : Go.Proofs.LaysM.n143 Tryz.prog Tryz.laysM143_ren := {
  mixed := by kernel_rfl
  f143 := Tryz.func153.trans (congrArg some (by kernel_rfl))
  f217 := Tryz.func195.trans (congrArg some (by kernel_rfl))
  f219 := Tryz.func181.trans (congrArg some (by kernel_rfl))
  f224 := Tryz.func204.trans (congrArg some (by kernel_rfl))
  f225 := Tryz.func203.trans (congrArg some (by kernel_rfl))
  f266 := Tryz.func212.trans (congrArg some (by kernel_rfl))
  f267 := Tryz.func205.trans (congrArg some (by kernel_rfl))
  f314 := Tryz.func219.trans (congrArg some (by kernel_rfl))
  t3 := Tryz.underlying3
  a3 := Tryz.isAgg3
  z3 := Tryz.sizeOf3
  v3 := Tryz.zeroValue3
  t4 := Tryz.underlying4
  a4 := Tryz.isAgg4
  z4 := Tryz.sizeOf4
  v4 := Tryz.zeroValue4
  t5 := Tryz.underlying5
  a5 := Tryz.isAgg5
  z5 := Tryz.sizeOf5
  v5 := Tryz.zeroValue5
  t9 := Tryz.underlying9
  a9 := Tryz.isAgg9
  z9 := Tryz.sizeOf9
  v9 := Tryz.zeroValue9
  t46 := Tryz.underlying309
  a46 := Tryz.isAgg309
  z46 := Tryz.sizeOf309
  v46 := Tryz.zeroValue309
  t51 := Tryz.underlying324
  a51 := Tryz.isAgg324
  z51 := Tryz.sizeOf324
  v51 := Tryz.zeroValue324
  t146 := Tryz.underlying325
  a146 := Tryz.isAgg325
  z146 := Tryz.sizeOf325
  v146 := Tryz.zeroValue325
  g1 := by kernel_rfl
  i3 := by kernel_rfl
  i4 := by kernel_rfl
  i5 := by kernel_rfl
  i9 := by kernel_rfl
  i46 := by kernel_rfl
  i51 := by kernel_rfl
  i146 := by kernel_rfl
  m1 := by kernel_rfl
  s1_3 := fun w h => Go.Proofs.cell_of_shapedOpen_int (zero := #[.int .i64 0]) (t := 3) h (of_decide_eq_true (by kernel_rfl)) (by kernel_rfl) rfl (by kernel_rfl) (by kernel_rfl) Tryz.underlying3 }
open Go.RowKit Go.Lib in
theorem Tryz.strings_Index_shaped (s sub : ByteArray) (w : World) (h : w.ShapedOpen Tryz.prog) (hs : s.size < 4294967281) :
    Calls Tryz.prog 153 #[.string s, .string sub] w fun e w' => e = .returned (.int .i64 (Lib.index s.data.toList sub.data.toList)) ∧ w' = w := Any.strings_Index_shaped Tryz.laysM143 s sub w h hs
def Tryz.laysM220_ren : Go.Shelf.Ren := ⟨fun | 220 => 161 | 219 => 181 | 217 => 195 | 225 => 203 | 224 => 204 | 267 => 205 | 266 => 212 | 314 => 219 | n => n, fun | 9 => 9 | 4 => 4 | 3 => 3 | 5 => 5 | 46 => 309 | 146 => 325 | 51 => 324 | n => n, fun | 1 => 2 | n => n⟩
theorem Tryz.laysM220 : Go.Proofs.LaysM.n220 Tryz.prog Tryz.laysM220_ren := {
  mixed := by kernel_rfl
  f217 := Tryz.func195.trans (congrArg some (by kernel_rfl))
  f219 := Tryz.func181.trans (congrArg some (by kernel_rfl))
  f220 := Tryz.func161.trans (congrArg some (by kernel_rfl))
  f224 := Tryz.func204.trans (congrArg some (by kernel_rfl))
  f225 := Tryz.func203.trans (congrArg some (by kernel_rfl))
  f266 := Tryz.func212.trans (congrArg some (by kernel_rfl))
  f267 := Tryz.func205.trans (congrArg some (by kernel_rfl))
  f314 := Tryz.func219.trans (congrArg some (by kernel_rfl))
  t3 := Tryz.underlying3
  a3 := Tryz.isAgg3
  z3 := Tryz.sizeOf3
  v3 := Tryz.zeroValue3
  t4 := Tryz.underlying4
  a4 := Tryz.isAgg4
  z4 := Tryz.sizeOf4
  v4 := Tryz.zeroValue4
  t5 := Tryz.underlying5
  a5 := Tryz.isAgg5
  z5 := Tryz.sizeOf5
  v5 := Tryz.zeroValue5
  t9 := Tryz.underlying9
  a9 := Tryz.isAgg9
  z9 := Tryz.sizeOf9
  v9 := Tryz.zeroValue9
  t46 := Tryz.underlying309
  a46 := Tryz.isAgg309
  z46 := Tryz.sizeOf309
  v46 := Tryz.zeroValue309
  t51 := Tryz.underlying324
  a51 := Tryz.isAgg324
  z51 := Tryz.sizeOf324
  v51 := Tryz.zeroValue324
  t146 := Tryz.underlying325
  a146 := Tryz.isAgg325
  z146 := Tryz.sizeOf325
  v146 := Tryz.zeroValue325
  g1 := by kernel_rfl
  i3 := by kernel_rfl
  i4 := by kernel_rfl
  i5 := by kernel_rfl
  i9 := by kernel_rfl
  i46 := by kernel_rfl
  i51 := by kernel_rfl
  i146 := by kernel_rfl
  m1 := by kernel_rfl
  s1_3 := fun w h => Go.Proofs.cell_of_shapedOpen_int (zero := #[.int .i64 0]) (t := 3) h (of_decide_eq_true (by kernel_rfl)) (by kernel_rfl) rfl (by kernel_rfl) (by kernel_rfl) Tryz.underlying3 }
open Go.RowKit Go.Lib in
theorem Tryz.stringslite_Cut_shaped (s sep : ByteArray) (w : World) (h : w.ShapedOpen Tryz.prog) (hs : s.size < 4294967281) :
    Calls Tryz.prog 161 #[.string s, .string sep] w fun e w' => e = .returned (.tuple #[.string ⟨(Lib.cut s.data.toList sep.data.toList).1.toArray⟩, .string ⟨(Lib.cut s.data.toList sep.data.toList).2.1.toArray⟩, .bool (Lib.cut s.data.toList sep.data.toList).2.2]) ∧ ∃ n, w' = w.drewN n := Any.stringslite_Cut_shaped Tryz.laysM220 s sep w h hs
def Tryz.laysM145_ren : Go.Shelf.Ren := ⟨fun | 145 => 125 | 220 => 161 | 219 => 181 | 217 => 195 | 225 => 203 | 224 => 204 | 267 => 205 | 266 => 212 | 314 => 219 | n => n, fun | 9 => 9 | 4 => 4 | 59 => 229 | 3 => 3 | 5 => 5 | 46 => 309 | 146 => 325 | 51 => 324 | n => n, fun | 1 => 2 | n => n⟩
theorem Tryz.laysM145 : Go.Proofs.LaysM.n145 Tryz.prog Tryz.laysM145_ren := {
  mixed := by kernel_rfl
  f145 := Tryz.func125.trans (congrArg some (by kernel_rfl))
  f217 := Tryz.func195.trans (congrArg some (by kernel_rfl))
  f219 := Tryz.func181.trans (congrArg some (by kernel_rfl))
  f220 := Tryz.func161.trans (congrArg some (by kernel_rfl))
  f224 := Tryz.func204.trans (congrArg some (by kernel_rfl))
  f225 := Tryz.func203.trans (congrArg some (by kernel_rfl))
  f266 := Tryz.func212.trans (congrArg some (by kernel_rfl))
  f267 := Tryz.func205.trans (congrArg some (by kernel_rfl))
  f314 := Tryz.func219.trans (congrArg some (by kernel_rfl))
  t3 := Tryz.underlying3
  a3 := Tryz.isAgg3
  z3 := Tryz.sizeOf3
  v3 := Tryz.zeroValue3
  t4 := Tryz.underlying4
  a4 := Tryz.isAgg4
  z4 := Tryz.sizeOf4
  v4 := Tryz.zeroValue4
  t5 := Tryz.underlying5
  a5 := Tryz.isAgg5
  z5 := Tryz.sizeOf5
  v5 := Tryz.zeroValue5
  t9 := Tryz.underlying9
  a9 := Tryz.isAgg9
  z9 := Tryz.sizeOf9
  v9 := Tryz.zeroValue9
  t46 := Tryz.underlying309
  a46 := Tryz.isAgg309
  z46 := Tryz.sizeOf309
  v46 := Tryz.zeroValue309
  t51 := Tryz.underlying324
  a51 := Tryz.isAgg324
  z51 := Tryz.sizeOf324
  v51 := Tryz.zeroValue324
  t59 := Tryz.underlying229
  a59 := Tryz.isAgg229
  z59 := Tryz.sizeOf229
  v59 := Tryz.zeroValue229
  t146 := Tryz.underlying325
  a146 := Tryz.isAgg325
  z146 := Tryz.sizeOf325
  v146 := Tryz.zeroValue325
  g1 := by kernel_rfl
  i3 := by kernel_rfl
  i4 := by kernel_rfl
  i5 := by kernel_rfl
  i9 := by kernel_rfl
  i46 := by kernel_rfl
  i51 := by kernel_rfl
  i59 := by kernel_rfl
  i146 := by kernel_rfl
  m1 := by kernel_rfl
  s1_3 := fun w h => Go.Proofs.cell_of_shapedOpen_int (zero := #[.int .i64 0]) (t := 3) h (of_decide_eq_true (by kernel_rfl)) (by kernel_rfl) rfl (by kernel_rfl) (by kernel_rfl) Tryz.underlying3 }
open Go.RowKit Go.Lib in
theorem Tryz.strings_Cut_shaped (s sep : ByteArray) (w : World) (h : w.ShapedOpen Tryz.prog) (hs : s.size < 4294967281) :
    Calls Tryz.prog 125 #[.string s, .string sep] w fun e w' => e = .returned (.tuple #[.string ⟨(Lib.cut s.data.toList sep.data.toList).1.toArray⟩, .string ⟨(Lib.cut s.data.toList sep.data.toList).2.1.toArray⟩, .bool (Lib.cut s.data.toList sep.data.toList).2.2]) ∧ ∃ n, w' = w.drewN n := Any.strings_Cut_shaped Tryz.laysM145 s sep w h hs
def Tryz.laysM138_ren : Go.Shelf.Ren := ⟨fun | 138 => 160 | 195 => 190 | 218 => 192 | 143 => 153 | 219 => 181 | 217 => 195 | 225 => 203 | 224 => 204 | 267 => 205 | 266 => 212 | 314 => 219 | n => n, fun | 9 => 9 | 3 => 3 | 4 => 4 | 5 => 5 | 0 => 0 | 46 => 309 | 146 => 325 | 51 => 324 | n => n, fun | 1 => 2 | n => n⟩
theorem Tryz.laysM138 : Go.Proofs.LaysM.n138 Tryz.prog Tryz.laysM138_ren := {
  mixed := by kernel_rfl
  f138 := Tryz.func160.trans (congrArg some (by kernel_rfl))
  f143 := Tryz.func153.trans (congrArg some (by kernel_rfl))
  f195 := Tryz.func190.trans (congrArg some (by kernel_rfl))
  f217 := Tryz.func195.trans (congrArg some (by kernel_rfl))
  f218 := Tryz.func192.trans (congrArg some (by kernel_rfl))
  f219 := Tryz.func181.trans (congrArg some (by kernel_rfl))
  f224 := Tryz.func204.trans (congrArg some (by kernel_rfl))
  f225 := Tryz.func203.trans (congrArg some (by kernel_rfl))
  f266 := Tryz.func212.trans (congrArg some (by kernel_rfl))
  f267 := Tryz.func205.trans (congrArg some (by kernel_rfl))
  f314 := Tryz.func219.trans (congrArg some (by kernel_rfl))
  t0 := Tryz.underlying0
  a0 := Tryz.isAgg0
  z0 := Tryz.sizeOf0
  v0 := Tryz.zeroValue0
  t3 := Tryz.underlying3
  a3 := Tryz.isAgg3
  z3 := Tryz.sizeOf3
  v3 := Tryz.zeroValue3
  t4 := Tryz.underlying4
  a4 := Tryz.isAgg4
  z4 := Tryz.sizeOf4
  v4 := Tryz.zeroValue4
  t5 := Tryz.underlying5
  a5 := Tryz.isAgg5
  z5 := Tryz.sizeOf5
  v5 := Tryz.zeroValue5
  t9 := Tryz.underlying9
  a9 := Tryz.isAgg9
  z9 := Tryz.sizeOf9
  v9 := Tryz.zeroValue9
  t46 := Tryz.underlying309
  a46 := Tryz.isAgg309
  z46 := Tryz.sizeOf309
  v46 := Tryz.zeroValue309
  t51 := Tryz.underlying324
  a51 := Tryz.isAgg324
  z51 := Tryz.sizeOf324
  v51 := Tryz.zeroValue324
  t146 := Tryz.underlying325
  a146 := Tryz.isAgg325
  z146 := Tryz.sizeOf325
  v146 := Tryz.zeroValue325
  g1 := by kernel_rfl
  i0 := by kernel_rfl
  i3 := by kernel_rfl
  i4 := by kernel_rfl
  i5 := by kernel_rfl
  i9 := by kernel_rfl
  i46 := by kernel_rfl
  i51 := by kernel_rfl
  i146 := by kernel_rfl
  m1 := by kernel_rfl
  s1_3 := fun w h => Go.Proofs.cell_of_shapedOpen_int (zero := #[.int .i64 0]) (t := 3) h (of_decide_eq_true (by kernel_rfl)) (by kernel_rfl) rfl (by kernel_rfl) (by kernel_rfl) Tryz.underlying3 }
open Go.RowKit Go.Lib in
theorem Tryz.strings_Count_shaped (s sub : ByteArray) (w : World) (h : w.ShapedOpen Tryz.prog) (hs : s.size < 4294967281) (h2 : 2 ≤ sub.size) :
    Calls Tryz.prog 160 #[.string s, .string sub] w fun e w' => e = .returned (.int .i64 (Lib.countB s sub)) ∧ w' = w := Any.strings_Count_shaped Tryz.laysM138 s sub w h hs h2
def Tryz.lays206_ren : Go.Shelf.Ren := ⟨fun | 206 => 168 | n => n, fun | 9 => 9 | 4 => 4 | 3 => 3 | n => n, fun | n => n⟩
theorem Tryz.lays206 : Go.Proofs.Lays.n206 Tryz.prog Tryz.lays206_ren := {
  mixed := by kernel_rfl
  f206 := Tryz.func168.trans (congrArg some (by kernel_rfl))
  t3 := Tryz.underlying3
  a3 := Tryz.isAgg3
  z3 := Tryz.sizeOf3
  v3 := Tryz.zeroValue3
  t4 := Tryz.underlying4
  a4 := Tryz.isAgg4
  z4 := Tryz.sizeOf4
  v4 := Tryz.zeroValue4
  t9 := Tryz.underlying9
  a9 := Tryz.isAgg9
  z9 := Tryz.sizeOf9
  v9 := Tryz.zeroValue9 }
open Go.RowKit Go.Lib in
/-- internal/stringslite.HasPrefix (what strings.HasPrefix calls). (LAID: no walk: one application.) -/
theorem Tryz.stringslite_HasPrefix (s p : ByteArray) (w : World) :
    Calls Tryz.prog 168 #[.string s, .string p] w fun e w' => e = .returned (.bool (Lib.hasPrefix s.data.toList p.data.toList)) ∧ w' = w := Any.stringslite_HasPrefix Tryz.lays206 s p w
def Tryz.lays99_ren : Go.Shelf.Ren := ⟨fun | 99 => 131 | 206 => 168 | n => n, fun | 9 => 9 | 4 => 4 | 3 => 3 | n => n, fun | n => n⟩
theorem Tryz.lays99 : Go.Proofs.Lays.n99 Tryz.prog Tryz.lays99_ren := {
  mixed := by kernel_rfl
  f99 := Tryz.func131.trans (congrArg some (by kernel_rfl))
  f206 := Tryz.func168.trans (congrArg some (by kernel_rfl))
  t3 := Tryz.underlying3
  a3 := Tryz.isAgg3
  z3 := Tryz.sizeOf3
  v3 := Tryz.zeroValue3
  t4 := Tryz.underlying4
  a4 := Tryz.isAgg4
  z4 := Tryz.sizeOf4
  v4 := Tryz.zeroValue4
  t9 := Tryz.underlying9
  a9 := Tryz.isAgg9
  z9 := Tryz.sizeOf9
  v9 := Tryz.zeroValue9 }
open Go.RowKit Go.Lib in
/-- strings.HasPrefix: "HasPrefix reports whether the string s begins with prefix.": IT RETURNS 'Lib.hasPrefix s prefix'; the world is as it was. (LAID: no walk: one application.) -/
theorem Tryz.strings_HasPrefix (s p : ByteArray) (w : World) :
    Calls Tryz.prog 131 #[.string s, .string p] w fun e w' => e = .returned (.bool (Lib.hasPrefix s.data.toList p.data.toList)) ∧ w' = w := Any.strings_HasPrefix Tryz.lays99 s p w
def Tryz.lays207_ren : Go.Shelf.Ren := ⟨fun | 207 => 133 | n => n, fun | 9 => 9 | 4 => 4 | 3 => 3 | n => n, fun | n => n⟩
theorem Tryz.lays207 : Go.Proofs.Lays.n207 Tryz.prog Tryz.lays207_ren := {
  mixed := by kernel_rfl
  f207 := Tryz.func133.trans (congrArg some (by kernel_rfl))
  t3 := Tryz.underlying3
  a3 := Tryz.isAgg3
  z3 := Tryz.sizeOf3
  v3 := Tryz.zeroValue3
  t4 := Tryz.underlying4
  a4 := Tryz.isAgg4
  z4 := Tryz.sizeOf4
  v4 := Tryz.zeroValue4
  t9 := Tryz.underlying9
  a9 := Tryz.isAgg9
  z9 := Tryz.sizeOf9
  v9 := Tryz.zeroValue9 }
open Go.RowKit Go.Lib in
/-- internal/stringslite.HasSuffix (what strings.HasSuffix calls). (LAID: no walk: one application.) -/
theorem Tryz.stringslite_HasSuffix (s p : ByteArray) (w : World) (hs : s.size ≤ 9223372036854775807) :
    Calls Tryz.prog 133 #[.string s, .string p] w fun e w' => e = .returned (.bool (Lib.hasSuffix s.data.toList p.data.toList)) ∧ w' = w := Any.stringslite_HasSuffix Tryz.lays207 s p w hs
def Tryz.lays100_ren : Go.Shelf.Ren := ⟨fun | 100 => 101 | 207 => 133 | n => n, fun | 9 => 9 | 4 => 4 | 3 => 3 | n => n, fun | n => n⟩
theorem Tryz.lays100 : Go.Proofs.Lays.n100 Tryz.prog Tryz.lays100_ren := {
  mixed := by kernel_rfl
  f100 := Tryz.func101.trans (congrArg some (by kernel_rfl))
  f207 := Tryz.func133.trans (congrArg some (by kernel_rfl))
  t3 := Tryz.underlying3
  a3 := Tryz.isAgg3
  z3 := Tryz.sizeOf3
  v3 := Tryz.zeroValue3
  t4 := Tryz.underlying4
  a4 := Tryz.isAgg4
  z4 := Tryz.sizeOf4
  v4 := Tryz.zeroValue4
  t9 := Tryz.underlying9
  a9 := Tryz.isAgg9
  z9 := Tryz.sizeOf9
  v9 := Tryz.zeroValue9 }
open Go.RowKit Go.Lib in
/-- strings.HasSuffix: "HasSuffix reports whether the string s ends with suffix.": IT RETURNS 'Lib.hasSuffix s suffix'; the world is as it was. ('hs': no Go string is longer: a caller has it of every string that it was handed.) (LAID: no walk: one application.) -/
theorem Tryz.strings_HasSuffix (s p : ByteArray) (w : World) (hs : s.size ≤ 9223372036854775807) :
    Calls Tryz.prog 101 #[.string s, .string p] w fun e w' => e = .returned (.bool (Lib.hasSuffix s.data.toList p.data.toList)) ∧ w' = w := Any.strings_HasSuffix Tryz.lays100 s p w hs
open Go.RowKit Go.Lib in
/-- strings.Count at whatever sep that is not empty: the two roads under one statement. (LAID: no walk: one application.) -/
theorem Tryz.strings_Count_any (s sep : ByteArray) (m : Int) (w : World) (hs : s.size < 4294967281) (hm : w.cell? ⟨2, 0, none⟩ = some (.int .i64 m)) (h1 : 1 ≤ sep.size) :
    Calls Tryz.prog 160 #[.string s, .string sep] w fun e w' => e = .returned (.int .i64 (Lib.countB s sep)) ∧ w' = w := Any.strings_Count_any Tryz.lays138 s sep m w hs hm h1
def Tryz.lays221_ren : Go.Shelf.Ren := ⟨fun | 221 => 124 | 268 => 159 | 138 => 160 | 143 => 153 | 195 => 190 | 197 => 191 | 218 => 192 | 219 => 181 | 260 => 210 | 217 => 195 | 225 => 203 | 224 => 204 | 267 => 205 | 266 => 212 | 314 => 219 | n => n, fun | 9 => 9 | 3 => 3 | 31 => 98 | 4 => 4 | 0 => 0 | 105 => 286 | 21 => 21 | 5 => 5 | 46 => 309 | 119 => 320 | 139 => 323 | 138 => 322 | 146 => 325 | 51 => 324 | n => n, fun | 1 => 2 | 3 => 3 | 4 => 4 | n => n⟩
theorem Tryz.lays221 : Go.Proofs.Lays.n221 Tryz.prog Tryz.lays221_ren := {
  mixed := by kernel_rfl
  f138 := Tryz.func160.trans (congrArg some (by kernel_rfl))
  f143 := Tryz.func153.trans (congrArg some (by kernel_rfl))
  f195 := Tryz.func190.trans (congrArg some (by kernel_rfl))
  f197 := Tryz.func191.trans (congrArg some (by kernel_rfl))
  f217 := Tryz.func195.trans (congrArg some (by kernel_rfl))
  f218 := Tryz.func192.trans (congrArg some (by kernel_rfl))
  f219 := Tryz.func181.trans (congrArg some (by kernel_rfl))
  f221 := Tryz.func124.trans (congrArg some (by kernel_rfl))
  f224 := Tryz.func204.trans (congrArg some (by kernel_rfl))
  f225 := Tryz.func203.trans (congrArg some (by kernel_rfl))
  f260 := Tryz.func210.trans (congrArg some (by kernel_rfl))
  f266 := Tryz.func212.trans (congrArg some (by kernel_rfl))
  f267 := Tryz.func205.trans (congrArg some (by kernel_rfl))
  f268 := Tryz.func159.trans (congrArg some (by kernel_rfl))
  f314 := Tryz.func219.trans (congrArg some (by kernel_rfl))
  t0 := Tryz.underlying0
  a0 := Tryz.isAgg0
  z0 := Tryz.sizeOf0
  v0 := Tryz.zeroValue0
  t3 := Tryz.underlying3
  a3 := Tryz.isAgg3
  z3 := Tryz.sizeOf3
  v3 := Tryz.zeroValue3
  t4 := Tryz.underlying4
  a4 := Tryz.isAgg4
  z4 := Tryz.sizeOf4
  v4 := Tryz.zeroValue4
  t5 := Tryz.underlying5
  a5 := Tryz.isAgg5
  z5 := Tryz.sizeOf5
  v5 := Tryz.zeroValue5
  t9 := Tryz.underlying9
  a9 := Tryz.isAgg9
  z9 := Tryz.sizeOf9
  v9 := Tryz.zeroValue9
  t21 := Tryz.underlying21
  a21 := Tryz.isAgg21
  z21 := Tryz.sizeOf21
  v21 := Tryz.zeroValue21
  t31 := Tryz.underlying98
  a31 := Tryz.isAgg98
  z31 := Tryz.sizeOf98
  v31 := Tryz.zeroValue98
  t46 := Tryz.underlying309
  a46 := Tryz.isAgg309
  z46 := Tryz.sizeOf309
  v46 := Tryz.zeroValue309
  t51 := Tryz.underlying324
  a51 := Tryz.isAgg324
  z51 := Tryz.sizeOf324
  v51 := Tryz.zeroValue324
  t105 := Tryz.underlying286
  a105 := Tryz.isAgg286
  z105 := Tryz.sizeOf286
  v105 := Tryz.zeroValue286
  t119 := Tryz.underlying320
  a119 := Tryz.isAgg320
  z119 := Tryz.sizeOf320
  t138 := Tryz.underlying322
  a138 := Tryz.isAgg322
  z138 := Tryz.sizeOf322
  v138 := Tryz.zeroValue322
  t139 := Tryz.underlying323
  a139 := Tryz.isAgg323
  z139 := Tryz.sizeOf323
  v139 := Tryz.zeroValue323
  t146 := Tryz.underlying325
  a146 := Tryz.isAgg325
  z146 := Tryz.sizeOf325
  v146 := Tryz.zeroValue325
  g1 := by kernel_rfl
  g3 := by kernel_rfl
  g4 := by kernel_rfl }
open Go.RowKit Go.Lib in
theorem Tryz.strings_genSplit (s sep : ByteArray) (sv : Nat) (n : Int) (N : Nat) (m : Int) (w : World) (hs : s.size < 4294967281) (hm : w.cell? ⟨2, 0, none⟩ = some (.int .i64 m)) (h1 : 1 ≤ sep.size) (hsv : sv ≤ sep.size) (hn0 : n ≠ 0) (hn63 : n ≤ 9223372036854775807) (hN : (N : Int) = min (if n < 0 then (Lib.countB s sep : Int) + 1 else n) ((s.size : Int) + 1)) :
    Calls Tryz.prog 124 #[.string s, .string sep, .int .i64 sv, .int .i64 n] w fun e w' =>
      e = .returned (.slice (some ⟨w.heap.size, 0, none⟩) (Lib.splitB sep sv (N - 1) s).length N) ∧ w' = w.alloc (.cells (Lib.cellsOf (Lib.splitB sep sv (N - 1) s) N) 9) := Any.strings_genSplit Tryz.lays221 (by kernel_rfl) s sep sv n N m w hs hm h1 hsv hn0 hn63 hN
def Tryz.lays146_ren : Go.Shelf.Ren := ⟨fun | 146 => 89 | 221 => 124 | 268 => 159 | 138 => 160 | 143 => 153 | 195 => 190 | 197 => 191 | 218 => 192 | 219 => 181 | 260 => 210 | 217 => 195 | 225 => 203 | 224 => 204 | 267 => 205 | 266 => 212 | 314 => 219 | n => n, fun | 9 => 9 | 31 => 98 | 3 => 3 | 4 => 4 | 0 => 0 | 105 => 286 | 21 => 21 | 5 => 5 | 46 => 309 | 119 => 320 | 139 => 323 | 138 => 322 | 146 => 325 | 51 => 324 | n => n, fun | 1 => 2 | 3 => 3 | 4 => 4 | n => n⟩
theorem Tryz.lays146 : Go.Proofs.Lays.n146 Tryz.prog Tryz.lays146_ren := {
  mixed := by kernel_rfl
  f138 := Tryz.func160.trans (congrArg some (by kernel_rfl))
  f143 := Tryz.func153.trans (congrArg some (by kernel_rfl))
  f146 := Tryz.func89.trans (congrArg some (by kernel_rfl))
  f195 := Tryz.func190.trans (congrArg some (by kernel_rfl))
  f197 := Tryz.func191.trans (congrArg some (by kernel_rfl))
  f217 := Tryz.func195.trans (congrArg some (by kernel_rfl))
  f218 := Tryz.func192.trans (congrArg some (by kernel_rfl))
  f219 := Tryz.func181.trans (congrArg some (by kernel_rfl))
  f221 := Tryz.func124.trans (congrArg some (by kernel_rfl))
  f224 := Tryz.func204.trans (congrArg some (by kernel_rfl))
  f225 := Tryz.func203.trans (congrArg some (by kernel_rfl))
  f260 := Tryz.func210.trans (congrArg some (by kernel_rfl))
  f266 := Tryz.func212.trans (congrArg some (by kernel_rfl))
  f267 := Tryz.func205.trans (congrArg some (by kernel_rfl))
  f268 := Tryz.func159.trans (congrArg some (by kernel_rfl))
  f314 := Tryz.func219.trans (congrArg some (by kernel_rfl))
  t0 := Tryz.underlying0
  a0 := Tryz.isAgg0
  z0 := Tryz.sizeOf0
  v0 := Tryz.zeroValue0
  t3 := Tryz.underlying3
  a3 := Tryz.isAgg3
  z3 := Tryz.sizeOf3
  v3 := Tryz.zeroValue3
  t4 := Tryz.underlying4
  a4 := Tryz.isAgg4
  z4 := Tryz.sizeOf4
  v4 := Tryz.zeroValue4
  t5 := Tryz.underlying5
  a5 := Tryz.isAgg5
  z5 := Tryz.sizeOf5
  v5 := Tryz.zeroValue5
  t9 := Tryz.underlying9
  a9 := Tryz.isAgg9
  z9 := Tryz.sizeOf9
  v9 := Tryz.zeroValue9
  t21 := Tryz.underlying21
  a21 := Tryz.isAgg21
  z21 := Tryz.sizeOf21
  v21 := Tryz.zeroValue21
  t31 := Tryz.underlying98
  a31 := Tryz.isAgg98
  z31 := Tryz.sizeOf98
  v31 := Tryz.zeroValue98
  t46 := Tryz.underlying309
  a46 := Tryz.isAgg309
  z46 := Tryz.sizeOf309
  v46 := Tryz.zeroValue309
  t51 := Tryz.underlying324
  a51 := Tryz.isAgg324
  z51 := Tryz.sizeOf324
  v51 := Tryz.zeroValue324
  t105 := Tryz.underlying286
  a105 := Tryz.isAgg286
  z105 := Tryz.sizeOf286
  v105 := Tryz.zeroValue286
  t119 := Tryz.underlying320
  a119 := Tryz.isAgg320
  z119 := Tryz.sizeOf320
  t138 := Tryz.underlying322
  a138 := Tryz.isAgg322
  z138 := Tryz.sizeOf322
  v138 := Tryz.zeroValue322
  t139 := Tryz.underlying323
  a139 := Tryz.isAgg323
  z139 := Tryz.sizeOf323
  v139 := Tryz.zeroValue323
  t146 := Tryz.underlying325
  a146 := Tryz.isAgg325
  z146 := Tryz.sizeOf325
  v146 := Tryz.zeroValue325
  g1 := by kernel_rfl
  g3 := by kernel_rfl
  g4 := by kernel_rfl }
open Go.RowKit Go.Lib in
/-- strings.Split. (LAID: no walk: one application.) -/
theorem Tryz.strings_Split (s sep : ByteArray) (m : Int) (w : World) (hs : s.size < 4294967281) (hm : w.cell? ⟨2, 0, none⟩ = some (.int .i64 m)) (h1 : 1 ≤ sep.size) :
    Calls Tryz.prog 89 #[.string s, .string sep] w fun e w' =>
      e = .returned (.slice (some ⟨w.heap.size, 0, none⟩) (Lib.countB s sep + 1) (Lib.countB s sep + 1)) ∧ w' = w.alloc (.cells ((Lib.splitB sep 0 (Lib.countB s sep) s).map Value.string).toArray 9) := Any.strings_Split Tryz.lays146 (by kernel_rfl) s sep m w hs hm h1
def Tryz.laysM146_ren : Go.Shelf.Ren := ⟨fun | 146 => 89 | 221 => 124 | 268 => 159 | 138 => 160 | 143 => 153 | 195 => 190 | 197 => 191 | 218 => 192 | 219 => 181 | 260 => 210 | 217 => 195 | 225 => 203 | 224 => 204 | 267 => 205 | 266 => 212 | 314 => 219 | n => n, fun | 9 => 9 | 31 => 98 | 3 => 3 | 4 => 4 | 0 => 0 | 105 => 286 | 21 => 21 | 5 => 5 | 46 => 309 | 119 => 320 | 139 => 323 | 138 => 322 | 146 => 325 | 51 => 324 | n => n, fun | 1 => 2 | 3 => 3 | 4 => 4 | n => n⟩
theorem Tryz.laysM146 : Go.Proofs.LaysM.n146 Tryz.prog Tryz.laysM146_ren := {
  mixed := by kernel_rfl
  f138 := Tryz.func160.trans (congrArg some (by kernel_rfl))
  f143 := Tryz.func153.trans (congrArg some (by kernel_rfl))
  f146 := Tryz.func89.trans (congrArg some (by kernel_rfl))
  f195 := Tryz.func190.trans (congrArg some (by kernel_rfl))
  f197 := Tryz.func191.trans (congrArg some (by kernel_rfl))
  f217 := Tryz.func195.trans (congrArg some (by kernel_rfl))
  f218 := Tryz.func192.trans (congrArg some (by kernel_rfl))
  f219 := Tryz.func181.trans (congrArg some (by kernel_rfl))
  f221 := Tryz.func124.trans (congrArg some (by kernel_rfl))
  f224 := Tryz.func204.trans (congrArg some (by kernel_rfl))
  f225 := Tryz.func203.trans (congrArg some (by kernel_rfl))
  f260 := Tryz.func210.trans (congrArg some (by kernel_rfl))
  f266 := Tryz.func212.trans (congrArg some (by kernel_rfl))
  f267 := Tryz.func205.trans (congrArg some (by kernel_rfl))
  f268 := Tryz.func159.trans (congrArg some (by kernel_rfl))
  f314 := Tryz.func219.trans (congrArg some (by kernel_rfl))
  t0 := Tryz.underlying0
  a0 := Tryz.isAgg0
  z0 := Tryz.sizeOf0
  v0 := Tryz.zeroValue0
  t3 := Tryz.underlying3
  a3 := Tryz.isAgg3
  z3 := Tryz.sizeOf3
  v3 := Tryz.zeroValue3
  t4 := Tryz.underlying4
  a4 := Tryz.isAgg4
  z4 := Tryz.sizeOf4
  v4 := Tryz.zeroValue4
  t5 := Tryz.underlying5
  a5 := Tryz.isAgg5
  z5 := Tryz.sizeOf5
  v5 := Tryz.zeroValue5
  t9 := Tryz.underlying9
  a9 := Tryz.isAgg9
  z9 := Tryz.sizeOf9
  v9 := Tryz.zeroValue9
  t21 := Tryz.underlying21
  a21 := Tryz.isAgg21
  z21 := Tryz.sizeOf21
  v21 := Tryz.zeroValue21
  t31 := Tryz.underlying98
  a31 := Tryz.isAgg98
  z31 := Tryz.sizeOf98
  v31 := Tryz.zeroValue98
  t46 := Tryz.underlying309
  a46 := Tryz.isAgg309
  z46 := Tryz.sizeOf309
  v46 := Tryz.zeroValue309
  t51 := Tryz.underlying324
  a51 := Tryz.isAgg324
  z51 := Tryz.sizeOf324
  v51 := Tryz.zeroValue324
  t105 := Tryz.underlying286
  a105 := Tryz.isAgg286
  z105 := Tryz.sizeOf286
  v105 := Tryz.zeroValue286
  t119 := Tryz.underlying320
  a119 := Tryz.isAgg320
  z119 := Tryz.sizeOf320
  t138 := Tryz.underlying322
  a138 := Tryz.isAgg322
  z138 := Tryz.sizeOf322
  v138 := Tryz.zeroValue322
  t139 := Tryz.underlying323
  a139 := Tryz.isAgg323
  z139 := Tryz.sizeOf323
  v139 := Tryz.zeroValue323
  t146 := Tryz.underlying325
  a146 := Tryz.isAgg325
  z146 := Tryz.sizeOf325
  v146 := Tryz.zeroValue325
  g1 := by kernel_rfl
  g3 := by kernel_rfl
  g4 := by kernel_rfl
  i0 := by kernel_rfl
  i3 := by kernel_rfl
  i4 := by kernel_rfl
  i5 := by kernel_rfl
  i9 := by kernel_rfl
  i21 := by kernel_rfl
  i31 := by kernel_rfl
  i46 := by kernel_rfl
  i51 := by kernel_rfl
  i105 := by kernel_rfl
  i138 := by kernel_rfl
  i139 := by kernel_rfl
  i146 := by kernel_rfl
  m1 := by kernel_rfl
  s1_3 := fun w h => Go.Proofs.cell_of_shapedOpen_int (zero := #[.int .i64 0]) (t := 3) h (of_decide_eq_true (by kernel_rfl)) (by kernel_rfl) rfl (by kernel_rfl) (by kernel_rfl) Tryz.underlying3
  m3 := by kernel_rfl
  m4 := by kernel_rfl }
open Go.RowKit Go.Lib in
/-- strings.Split, sep not empty. (LAID: no walk: one application.) -/
theorem Tryz.strings_Split_shaped (s sep : ByteArray) (w : World) (h : w.ShapedOpen Tryz.prog) (hs : s.size < 4294967281) (h1 : 1 ≤ sep.size) :
    Calls Tryz.prog 89 #[.string s, .string sep] w fun e w' =>
      e = .returned (.slice (some ⟨w.heap.size, 0, none⟩) (Lib.countB s sep + 1) (Lib.countB s sep + 1)) ∧ w' = w.alloc (.cells ((Lib.splitB sep 0 (Lib.countB s sep) s).map Value.string).toArray 9) := Any.strings_Split_shaped Tryz.laysM146 s sep w h hs h1
def Tryz.lays197_ren : Go.Shelf.Ren := ⟨fun | 197 => 191 | 260 => 210 | n => n, fun | 9 => 9 | 21 => 21 | 3 => 3 | 4 => 4 | 5 => 5 | 105 => 286 | 119 => 320 | 0 => 0 | 46 => 309 | 139 => 323 | 138 => 322 | n => n, fun | 3 => 3 | 4 => 4 | n => n⟩
theorem Tryz.lays197 : Go.Proofs.Lays.n197 Tryz.prog Tryz.lays197_ren := {
  mixed := by kernel_rfl
  f197 := Tryz.func191.trans (congrArg some (by kernel_rfl))
  f260 := Tryz.func210.trans (congrArg some (by kernel_rfl))
  t0 := Tryz.underlying0
  a0 := Tryz.isAgg0
  z0 := Tryz.sizeOf0
  v0 := Tryz.zeroValue0
  t3 := Tryz.underlying3
  a3 := Tryz.isAgg3
  z3 := Tryz.sizeOf3
  v3 := Tryz.zeroValue3
  t4 := Tryz.underlying4
  a4 := Tryz.isAgg4
  z4 := Tryz.sizeOf4
  v4 := Tryz.zeroValue4
  t5 := Tryz.underlying5
  a5 := Tryz.isAgg5
  z5 := Tryz.sizeOf5
  v5 := Tryz.zeroValue5
  t9 := Tryz.underlying9
  a9 := Tryz.isAgg9
  z9 := Tryz.sizeOf9
  v9 := Tryz.zeroValue9
  t21 := Tryz.underlying21
  a21 := Tryz.isAgg21
  z21 := Tryz.sizeOf21
  v21 := Tryz.zeroValue21
  t46 := Tryz.underlying309
  a46 := Tryz.isAgg309
  z46 := Tryz.sizeOf309
  v46 := Tryz.zeroValue309
  t105 := Tryz.underlying286
  a105 := Tryz.isAgg286
  z105 := Tryz.sizeOf286
  v105 := Tryz.zeroValue286
  t119 := Tryz.underlying320
  a119 := Tryz.isAgg320
  z119 := Tryz.sizeOf320
  t138 := Tryz.underlying322
  a138 := Tryz.isAgg322
  z138 := Tryz.sizeOf322
  v138 := Tryz.zeroValue322
  t139 := Tryz.underlying323
  a139 := Tryz.isAgg323
  z139 := Tryz.sizeOf323
  v139 := Tryz.zeroValue323
  g3 := by kernel_rfl
  g4 := by kernel_rfl }
open Go.RowKit Go.Lib in
/-- unicode/utf8.DecodeRuneInString: "DecodeRuneInString is like DecodeRune but its input is a string.": ("DecodeRune unpacks the first UTF-8 encoding in p and returns the rune and its width in bytes."): WHERE s BEGINS WITH AN ASCII BYTE x: (x, 1). (LAID: no walk: one application.) -/
theorem Tryz.utf8_DecodeRuneInString_ascii (s : ByteArray) (x : UInt8) (w : World) (h0 : s.data.toList[0]? = some x) (hx : x.toNat < 128) :
    Calls Tryz.prog 191 #[.string s] w fun e w' => e = .returned (.tuple #[.int .i32 x.toNat, .int .i64 1]) ∧ w' = w := Any.utf8_DecodeRuneInString_ascii Tryz.lays197 s x w h0 hx
def Tryz.lays152_ren : Go.Shelf.Ren := ⟨fun | 152 => 211 | 137 => 166 | 119 => 220 | 224 => 204 | 225 => 203 | 217 => 195 | 266 => 212 | n => n, fun | 9 => 9 | 21 => 21 | 3 => 3 | 4 => 4 | 5 => 5 | 0 => 0 | 46 => 309 | n => n, fun | n => n⟩
theorem Tryz.lays152 : Go.Proofs.Lays.n152 Tryz.prog Tryz.lays152_ren := {
  mixed := by kernel_rfl
  f119 := Tryz.func220.trans (congrArg some (by kernel_rfl))
  f137 := Tryz.func166.trans (congrArg some (by kernel_rfl))
  f152 := Tryz.func211.trans (congrArg some (by kernel_rfl))
  f217 := Tryz.func195.trans (congrArg some (by kernel_rfl))
  f224 := Tryz.func204.trans (congrArg some (by kernel_rfl))
  f225 := Tryz.func203.trans (congrArg some (by kernel_rfl))
  f266 := Tryz.func212.trans (congrArg some (by kernel_rfl))
  t0 := Tryz.underlying0
  a0 := Tryz.isAgg0
  z0 := Tryz.sizeOf0
  v0 := Tryz.zeroValue0
  t3 := Tryz.underlying3
  a3 := Tryz.isAgg3
  z3 := Tryz.sizeOf3
  v3 := Tryz.zeroValue3
  t4 := Tryz.underlying4
  a4 := Tryz.isAgg4
  z4 := Tryz.sizeOf4
  v4 := Tryz.zeroValue4
  t5 := Tryz.underlying5
  a5 := Tryz.isAgg5
  z5 := Tryz.sizeOf5
  v5 := Tryz.zeroValue5
  t9 := Tryz.underlying9
  a9 := Tryz.isAgg9
  z9 := Tryz.sizeOf9
  v9 := Tryz.zeroValue9
  t21 := Tryz.underlying21
  a21 := Tryz.isAgg21
  z21 := Tryz.sizeOf21
  v21 := Tryz.zeroValue21
  t46 := Tryz.underlying309
  a46 := Tryz.isAgg309
  z46 := Tryz.sizeOf309
  v46 := Tryz.zeroValue309 }
open Go.RowKit Go.Lib in
theorem Tryz.strings_IndexRune_ascii (s : ByteArray) (r : Int) (w : World) (h0 : 0 ≤ r) (h1 : r < 128) :
    Calls Tryz.prog 211 #[.string s, .int .i32 r] w fun e w' => e = .returned (.int .i64 (Lib.indexByte s.data.toList r.toNat.toUInt8)) ∧ w' = w := Any.strings_IndexRune_ascii Tryz.lays152 s r w h0 h1
def Tryz.lays151_ren : Go.Shelf.Ren := ⟨fun | 151 => 194 | 152 => 211 | 137 => 166 | 119 => 220 | 224 => 204 | 225 => 203 | 217 => 195 | 266 => 212 | n => n, fun | 9 => 9 | 21 => 21 | 4 => 4 | 3 => 3 | 5 => 5 | 0 => 0 | 46 => 309 | n => n, fun | n => n⟩
theorem Tryz.lays151 : Go.Proofs.Lays.n151 Tryz.prog Tryz.lays151_ren := {
  mixed := by kernel_rfl
  f119 := Tryz.func220.trans (congrArg some (by kernel_rfl))
  f137 := Tryz.func166.trans (congrArg some (by kernel_rfl))
  f151 := Tryz.func194.trans (congrArg some (by kernel_rfl))
  f152 := Tryz.func211.trans (congrArg some (by kernel_rfl))
  f217 := Tryz.func195.trans (congrArg some (by kernel_rfl))
  f224 := Tryz.func204.trans (congrArg some (by kernel_rfl))
  f225 := Tryz.func203.trans (congrArg some (by kernel_rfl))
  f266 := Tryz.func212.trans (congrArg some (by kernel_rfl))
  t0 := Tryz.underlying0
  a0 := Tryz.isAgg0
  z0 := Tryz.sizeOf0
  v0 := Tryz.zeroValue0
  t3 := Tryz.underlying3
  a3 := Tryz.isAgg3
  z3 := Tryz.sizeOf3
  v3 := Tryz.zeroValue3
  t4 := Tryz.underlying4
  a4 := Tryz.isAgg4
  z4 := Tryz.sizeOf4
  v4 := Tryz.zeroValue4
  t5 := Tryz.underlying5
  a5 := Tryz.isAgg5
  z5 := Tryz.sizeOf5
  v5 := Tryz.zeroValue5
  t9 := Tryz.underlying9
  a9 := Tryz.isAgg9
  z9 := Tryz.sizeOf9
  v9 := Tryz.zeroValue9
  t21 := Tryz.underlying21
  a21 := Tryz.isAgg21
  z21 := Tryz.sizeOf21
  v21 := Tryz.zeroValue21
  t46 := Tryz.underlying309
  a46 := Tryz.isAgg309
  z46 := Tryz.sizeOf309
  v46 := Tryz.zeroValue309 }
open Go.RowKit Go.Lib in
theorem Tryz.strings_ContainsRune_ascii (s : ByteArray) (r : Int) (w : World) (h0 : 0 ≤ r) (h1 : r < 128) :
    Calls Tryz.prog 194 #[.string s, .int .i32 r] w fun e w' => e = .returned (.bool (decide (0 ≤ Lib.indexByte s.data.toList r.toNat.toUInt8))) ∧ w' = w := Any.strings_ContainsRune_ascii Tryz.lays151 s r w h0 h1
open Go.RowKit Go.Lib in
theorem Tryz.utf8_RuneCountInString_ascii (s : ByteArray) (w : World) (hs : s.size < 4294967281) (hascii : ∀ (j : Nat) b, s.data.toList[j]? = some b → b.toNat < 128) :
    Calls Tryz.prog 190 #[.string s] w fun e w' => e = .returned (.int .i64 s.size) ∧ w' = w.iter s s.size := Any.utf8_RuneCountInString_ascii Tryz.lays195 s w hs hascii
def Tryz.lays227_ren : Go.Shelf.Ren := ⟨fun | 227 => 163 | n => n, fun | 9 => 9 | 116 => 271 | 4 => 4 | 0 => 0 | 3 => 3 | 5 => 5 | n => n, fun | n => n⟩
theorem Tryz.lays227 : Go.Proofs.Lays.n227 Tryz.prog Tryz.lays227_ren := {
  mixed := by kernel_rfl
  f227 := Tryz.func163.trans (congrArg some (by kernel_rfl))
  t0 := Tryz.underlying0
  a0 := Tryz.isAgg0
  z0 := Tryz.sizeOf0
  v0 := Tryz.zeroValue0
  t3 := Tryz.underlying3
  a3 := Tryz.isAgg3
  z3 := Tryz.sizeOf3
  v3 := Tryz.zeroValue3
  t4 := Tryz.underlying4
  a4 := Tryz.isAgg4
  z4 := Tryz.sizeOf4
  v4 := Tryz.zeroValue4
  t5 := Tryz.underlying5
  a5 := Tryz.isAgg5
  z5 := Tryz.sizeOf5
  v5 := Tryz.zeroValue5
  t9 := Tryz.underlying9
  a9 := Tryz.isAgg9
  z9 := Tryz.sizeOf9
  v9 := Tryz.zeroValue9
  t116 := Tryz.underlying271
  a116 := Tryz.isAgg271
  z116 := Tryz.sizeOf271 }
open Go.RowKit Go.Lib in
theorem Tryz.strings_makeASCIISet (hv116 : ∀ w, (zeroValue 271).run Tryz.prog w = .ok (.agg (Array.replicate 256 (.bool false))) w) (chars : ByteArray) (w : World) (hs : chars.size < 4294967281) (hascii : ∀ (j : Nat) b, chars.data.toList[j]? = some b → b.toNat < 128) :
    Calls Tryz.prog 163 #[.string chars] w fun e w' => e = .returned (.tuple #[.agg (Lib.setCells chars.data.toList), .bool true]) ∧ w' = w.alloc (.cells (Lib.setCells chars.data.toList) 271) := Any.strings_makeASCIISet Tryz.lays227 hv116 (by kernel_rfl) chars w hs hascii
def Tryz.lays228_ren : Go.Shelf.Ren := ⟨fun | 228 => 193 | n => n, fun | 124 => 275 | 5 => 5 | 4 => 4 | 0 => 0 | 116 => 271 | n => n, fun | n => n⟩
theorem Tryz.lays228 : Go.Proofs.Lays.n228 Tryz.prog Tryz.lays228_ren := {
  mixed := by kernel_rfl
  f228 := Tryz.func193.trans (congrArg some (by kernel_rfl))
  t0 := Tryz.underlying0
  a0 := Tryz.isAgg0
  z0 := Tryz.sizeOf0
  v0 := Tryz.zeroValue0
  t4 := Tryz.underlying4
  a4 := Tryz.isAgg4
  z4 := Tryz.sizeOf4
  v4 := Tryz.zeroValue4
  t5 := Tryz.underlying5
  a5 := Tryz.isAgg5
  z5 := Tryz.sizeOf5
  v5 := Tryz.zeroValue5
  t116 := Tryz.underlying271
  a116 := Tryz.isAgg271
  z116 := Tryz.sizeOf271
  t124 := Tryz.underlying275
  a124 := Tryz.isAgg275
  z124 := Tryz.sizeOf275
  v124 := Tryz.zeroValue275 }
open Go.RowKit Go.Lib in
/-- '(as *asciiSet) contains(c)': 'as[c]': the set lies at block b, whole. (LAID: no walk: one application.) -/
theorem Tryz.asciiSet_contains (b : Nat) (x : UInt8) (v : Bool) (w : World) (hc : w.cell? ⟨b, x.toNat, none⟩ = some (.bool v)) :
    Calls Tryz.prog 193 #[.pointer (some ⟨b, 0, none⟩), .int .u8 x.toNat] w fun e w' => e = .returned (.bool v) ∧ w' = w := Any.asciiSet_contains Tryz.lays228 b x v w hc
def Tryz.lays268_ren : Go.Shelf.Ren := ⟨fun | 268 => 159 | 195 => 190 | 197 => 191 | 260 => 210 | n => n, fun | 9 => 9 | 3 => 3 | 31 => 98 | 4 => 4 | 105 => 286 | 21 => 21 | 0 => 0 | 5 => 5 | 119 => 320 | 46 => 309 | 139 => 323 | 138 => 322 | n => n, fun | 3 => 3 | 4 => 4 | n => n⟩
theorem Tryz.lays268 : Go.Proofs.Lays.n268 Tryz.prog Tryz.lays268_ren := {
  mixed := by kernel_rfl
  f195 := Tryz.func190.trans (congrArg some (by kernel_rfl))
  f197 := Tryz.func191.trans (congrArg some (by kernel_rfl))
  f260 := Tryz.func210.trans (congrArg some (by kernel_rfl))
  f268 := Tryz.func159.trans (congrArg some (by kernel_rfl))
  t0 := Tryz.underlying0
  a0 := Tryz.isAgg0
  z0 := Tryz.sizeOf0
  v0 := Tryz.zeroValue0
  t3 := Tryz.underlying3
  a3 := Tryz.isAgg3
  z3 := Tryz.sizeOf3
  v3 := Tryz.zeroValue3
  t4 := Tryz.underlying4
  a4 := Tryz.isAgg4
  z4 := Tryz.sizeOf4
  v4 := Tryz.zeroValue4
  t5 := Tryz.underlying5
  a5 := Tryz.isAgg5
  z5 := Tryz.sizeOf5
  v5 := Tryz.zeroValue5
  t9 := Tryz.underlying9
  a9 := Tryz.isAgg9
  z9 := Tryz.sizeOf9
  v9 := Tryz.zeroValue9
  t21 := Tryz.underlying21
  a21 := Tryz.isAgg21
  z21 := Tryz.sizeOf21
  v21 := Tryz.zeroValue21
  t31 := Tryz.underlying98
  a31 := Tryz.isAgg98
  z31 := Tryz.sizeOf98
  v31 := Tryz.zeroValue98
  t46 := Tryz.underlying309
  a46 := Tryz.isAgg309
  z46 := Tryz.sizeOf309
  v46 := Tryz.zeroValue309
  t105 := Tryz.underlying286
  a105 := Tryz.isAgg286
  z105 := Tryz.sizeOf286
  v105 := Tryz.zeroValue286
  t119 := Tryz.underlying320
  a119 := Tryz.isAgg320
  z119 := Tryz.sizeOf320
  t138 := Tryz.underlying322
  a138 := Tryz.isAgg322
  z138 := Tryz.sizeOf322
  v138 := Tryz.zeroValue322
  t139 := Tryz.underlying323
  a139 := Tryz.isAgg323
  z139 := Tryz.sizeOf323
  v139 := Tryz.zeroValue323
  g3 := by kernel_rfl
  g4 := by kernel_rfl }
open Go.RowKit Go.Lib in
theorem Tryz.strings_explode_all (s : ByteArray) (n : Int) (w : World) (hn : n < 0) (hs : s.size < 4294967281) (hascii : ∀ (j : Nat) b, s.data.toList[j]? = some b → b.toNat < 128) :
    Calls Tryz.prog 159 #[.string s, .int .i64 n] w fun e w' =>
      e = .returned (.slice (some ⟨(w.iter s s.size).heap.size, 0, none⟩) s.size s.size) ∧ w' = (w.iter s s.size).alloc (.cells ((Lib.charsB s).map Value.string).toArray 9) := Any.strings_explode_all Tryz.lays268 (by kernel_rfl) s n w hn hs hascii
open Go.RowKit Go.Lib in
/-- strings.genSplit at sep == "", n < 0: 'return explode(s, n)'. (LAID: no walk: one application.) -/
theorem Tryz.strings_genSplit_chars (s sep : ByteArray) (sv n : Int) (w : World) (h0 : sep.size = 0) (hn : n < 0) (hs : s.size < 4294967281) (hascii : ∀ (j : Nat) b, s.data.toList[j]? = some b → b.toNat < 128) :
    Calls Tryz.prog 124 #[.string s, .string sep, .int .i64 sv, .int .i64 n] w fun e w' =>
      e = .returned (.slice (some ⟨(w.iter s s.size).heap.size, 0, none⟩) s.size s.size) ∧ w' = (w.iter s s.size).alloc (.cells ((Lib.charsB s).map Value.string).toArray 9) := Any.strings_genSplit_chars Tryz.lays221 (by kernel_rfl) s sep sv n w h0 hn hs hascii
open Go.RowKit Go.Lib in
/-- strings.Split(s, ""), s ASCII: a piece a byte. (LAID: no walk: one application.) -/
theorem Tryz.strings_Split_chars (s sep : ByteArray) (w : World) (h0 : sep.size = 0) (hs : s.size < 4294967281) (hascii : ∀ (j : Nat) b, s.data.toList[j]? = some b → b.toNat < 128) :
    Calls Tryz.prog 89 #[.string s, .string sep] w fun e w' =>
      e = .returned (.slice (some ⟨(w.iter s s.size).heap.size, 0, none⟩) s.size s.size) ∧ w' = (w.iter s s.size).alloc (.cells ((Lib.charsB s).map Value.string).toArray 9) := Any.strings_Split_chars Tryz.lays146 (by kernel_rfl) s sep w h0 hs hascii
def Tryz.lays264_ren : Go.Shelf.Ren := ⟨fun | 264 => 217 | n => n, fun | 53 => 29 | 46 => 309 | n => n, fun | n => n⟩
theorem Tryz.lays264 : Go.Proofs.Lays.n264 Tryz.prog Tryz.lays264_ren := {
  mixed := by kernel_rfl
  f264 := Tryz.func217.trans (congrArg some (by kernel_rfl))
  t46 := Tryz.underlying309
  a46 := Tryz.isAgg309
  z46 := Tryz.sizeOf309
  v46 := Tryz.zeroValue309
  t53 := Tryz.underlying29
  a53 := Tryz.isAgg29
  z53 := Tryz.sizeOf29
  v53 := Tryz.zeroValue29 }
open Go.RowKit Go.Lib in
theorem Tryz.bits_Mul64 (x y : Nat) (hx : x < 18446744073709551616) (hy : y < 18446744073709551616) (w : World) :
    Calls Tryz.prog 217 #[.int .u64 x, .int .u64 y] w fun e w' => e = .returned (.tuple #[.int .u64 ((x * y / 18446744073709551616 : Nat) : Int), .int .u64 ((x * y % 18446744073709551616 : Nat) : Int)]) ∧ w' = w := Any.bits_Mul64 Tryz.lays264 x y hx hy w
def Tryz.lays260_ren : Go.Shelf.Ren := ⟨fun | 260 => 210 | n => n, fun | 9 => 9 | 21 => 21 | 3 => 3 | 4 => 4 | 5 => 5 | 119 => 320 | 0 => 0 | 46 => 309 | 139 => 323 | 138 => 322 | n => n, fun | 3 => 3 | 4 => 4 | n => n⟩
theorem Tryz.lays260 : Go.Proofs.Lays.n260 Tryz.prog Tryz.lays260_ren := {
  mixed := by kernel_rfl
  f260 := Tryz.func210.trans (congrArg some (by kernel_rfl))
  t0 := Tryz.underlying0
  a0 := Tryz.isAgg0
  z0 := Tryz.sizeOf0
  v0 := Tryz.zeroValue0
  t3 := Tryz.underlying3
  a3 := Tryz.isAgg3
  z3 := Tryz.sizeOf3
  v3 := Tryz.zeroValue3
  t4 := Tryz.underlying4
  a4 := Tryz.isAgg4
  z4 := Tryz.sizeOf4
  v4 := Tryz.zeroValue4
  t5 := Tryz.underlying5
  a5 := Tryz.isAgg5
  z5 := Tryz.sizeOf5
  v5 := Tryz.zeroValue5
  t9 := Tryz.underlying9
  a9 := Tryz.isAgg9
  z9 := Tryz.sizeOf9
  v9 := Tryz.zeroValue9
  t21 := Tryz.underlying21
  a21 := Tryz.isAgg21
  z21 := Tryz.sizeOf21
  v21 := Tryz.zeroValue21
  t46 := Tryz.underlying309
  a46 := Tryz.isAgg309
  z46 := Tryz.sizeOf309
  v46 := Tryz.zeroValue309
  t119 := Tryz.underlying320
  a119 := Tryz.isAgg320
  z119 := Tryz.sizeOf320
  t138 := Tryz.underlying322
  a138 := Tryz.isAgg322
  z138 := Tryz.sizeOf322
  v138 := Tryz.zeroValue322
  t139 := Tryz.underlying323
  a139 := Tryz.isAgg323
  z139 := Tryz.sizeOf323
  v139 := Tryz.zeroValue323
  g3 := by kernel_rfl
  g4 := by kernel_rfl }
open Go.RowKit Go.Lib in
theorem Tryz.utf8_decodeRuneInStringSlow (s : ByteArray) (w : World) (hT : Lib.Utf8Tabs 3 4 w) :
    Calls Tryz.prog 210 #[.string s] w fun e w' => e = .returned (.tuple #[.int .i32 (Lib.decodeGo s).1, .int .i64 (Lib.decodeGo s).2]) ∧ Below w.heap.size w w' := Any.utf8_decodeRuneInStringSlow Tryz.lays260 s w hT
open Go.RowKit Go.Lib in
/-- **unicode/utf8.DecodeRuneInString AT EVERY STRING.** (LAID: no walk: one application.) -/
theorem Tryz.utf8_DecodeRuneInString (s : ByteArray) (w : World) (hT : Lib.Utf8Tabs 3 4 w) :
    Calls Tryz.prog 191 #[.string s] w fun e w' => e = .returned (.tuple #[.int .i32 (Lib.decodeGo s).1, .int .i64 (Lib.decodeGo s).2]) ∧ Below w.heap.size w w' := Any.utf8_DecodeRuneInString Tryz.lays197 s w hT
def Tryz.lays7n32_ren : Go.Shelf.Ren := ⟨fun | 32 => 178 | 49 => 202 | n => n, fun | 30 => 74 | 21 => 21 | 3 => 3 | 0 => 0 | 5 => 5 | 4 => 4 | 33 => 286 | 66 => 320 | 25 => 309 | 69 => 323 | 68 => 322 | n => n, fun | 2 => 3 | 3 => 4 | n => n⟩
theorem Tryz.lays7n32 : Go.Proofs.Lays7.n32 Tryz.prog Tryz.lays7n32_ren := {
  mixed := by kernel_rfl
  f32 := Tryz.func178.trans (congrArg some (by kernel_rfl))
  f49 := Tryz.func202.trans (congrArg some (by kernel_rfl))
  t0 := Tryz.underlying0
  a0 := Tryz.isAgg0
  z0 := Tryz.sizeOf0
  v0 := Tryz.zeroValue0
  i0 := by kernel_rfl
  t3 := Tryz.underlying3
  a3 := Tryz.isAgg3
  z3 := Tryz.sizeOf3
  v3 := Tryz.zeroValue3
  i3 := by kernel_rfl
  t4 := Tryz.underlying4
  a4 := Tryz.isAgg4
  z4 := Tryz.sizeOf4
  v4 := Tryz.zeroValue4
  i4 := by kernel_rfl
  t5 := Tryz.underlying5
  a5 := Tryz.isAgg5
  z5 := Tryz.sizeOf5
  v5 := Tryz.zeroValue5
  i5 := by kernel_rfl
  t21 := Tryz.underlying21
  a21 := Tryz.isAgg21
  z21 := Tryz.sizeOf21
  v21 := Tryz.zeroValue21
  i21 := by kernel_rfl
  t25 := Tryz.underlying309
  a25 := Tryz.isAgg309
  z25 := Tryz.sizeOf309
  v25 := Tryz.zeroValue309
  i25 := by kernel_rfl
  t30 := Tryz.underlying74
  a30 := Tryz.isAgg74
  z30 := Tryz.sizeOf74
  v30 := Tryz.zeroValue74
  i30 := by kernel_rfl
  t33 := Tryz.underlying286
  a33 := Tryz.isAgg286
  z33 := Tryz.sizeOf286
  v33 := Tryz.zeroValue286
  i33 := by kernel_rfl
  t66 := Tryz.underlying320
  a66 := Tryz.isAgg320
  z66 := Tryz.sizeOf320
  t68 := Tryz.underlying322
  a68 := Tryz.isAgg322
  z68 := Tryz.sizeOf322
  v68 := Tryz.zeroValue322
  i68 := by kernel_rfl
  t69 := Tryz.underlying323
  a69 := Tryz.isAgg323
  z69 := Tryz.sizeOf323
  v69 := Tryz.zeroValue323
  i69 := by kernel_rfl
  g2 := by kernel_rfl
  g3 := by kernel_rfl }
end Go.Proofs
