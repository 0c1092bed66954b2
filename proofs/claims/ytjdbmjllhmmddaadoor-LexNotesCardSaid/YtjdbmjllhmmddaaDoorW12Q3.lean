/- Parts of the proof of a law, in build order: TrydShelf, W1, W2. -/
import Derived.Test.YtjdbmjllhmmddaaDoorW12Q2
import Derived.Shelf.Small.Utf8
import Derived.Shelf.Small.Strs
import Derived.Shelf.Strconv.Itoa0
import Derived.Shelf.Strconv.Itoa1
import Derived.Shelf.LaysM
import Derived.Shelf.Strconv.Itoa2
import Derived.Shelf.Strconv.Itoa3
import Derived.Shelf.Strconv.Clone
import Derived.Shelf.Strconv.SyntaxError
import Derived.Shelf.LaysC
import Derived.Shelf.Strconv.ToError
import Derived.Shelf.Strconv.Lower
import Derived.Shelf.Strconv.RangeError
import Derived.Shelf.Strconv.ToErrorRange
import Derived.Shelf.Strings.Search1
import Derived.Shelf.Strings.Search2
import Derived.Shelf.Strings.Search3
import Derived.Shelf.Strings.Shaped
import Derived.Shelf.Strings.Prefix
import Derived.Shelf.Strings.Runes
import Derived.Shelf.Strings.IndexAny
import Derived.Shelf.Strings.AsciiSet
import Derived.Shelf.Strings.IndexAnyAll
import Derived.Test.YtjdbmjllhmmddaaDoorProg
import Derived.IntWalk
set_option maxRecDepth 2000
set_option linter.unusedVariables false
set_option linter.unusedSimpArgs false
/-
  DERIVED: THE SHELF's CONTRACTS AT THIS DUMP, IN PLAIN WORDS (tools/lay-plain.mjs out of 'TrydShelf.lean', which tools/lay-shelf.mjs wrote): THE SAME DECLARATIONS UNDER THE SAME NAMES: 'import', 'namespace', 'open', 'def', 'theorem' AND NOTHING ELSE: no command of the shelf's: FOR A HAND-IN. Each laying: the table of numbers ('.._ren') and one theorem, a field a fact of the dump's own or the kernel's comparison; each contract: ONE APPLICATION.
-/
namespace Go.Proofs
open Go.Shelf
def Tryd.lays119_ren : Go.Shelf.Ren := ⟨fun | 119 => 102 | n => n, fun | 21 => 21 | 4 => 4 | n => n, fun | n => n⟩
theorem Tryd.lays119 : Go.Proofs.Lays.n119 Tryd.prog Tryd.lays119_ren := {
  mixed := by kernel_rfl
  f119 := Tryd.func102.trans (congrArg some (by kernel_rfl))
  t4 := Tryd.underlying4
  a4 := Tryd.isAgg4
  z4 := Tryd.sizeOf4
  v4 := Tryd.zeroValue4
  t21 := Tryd.underlying21
  a21 := Tryd.isAgg21
  z21 := Tryd.sizeOf21
  v21 := Tryd.zeroValue21 }
/-- utf8.ValidRune: "ValidRune reports whether r can be legally encoded as UTF-8. Code points that are out of range or a surrogate half are illegal.": IT RETURNS 'Lib.validRune r'; the world is as it was. (LAID: no walk: one application.) -/
theorem Tryd.utf8_ValidRune (r : Int) (w : World) :
    Calls Tryd.prog 102 #[.int .i32 r] w fun e w' => e = .returned (.bool (Lib.validRune r)) ∧ w' = w := Any.utf8_ValidRune Tryd.lays119 r w
def Tryd.lays137_ren : Go.Shelf.Ren := ⟨fun | 137 => 36 | 217 => 50 | 266 => 64 | n => n, fun | 9 => 9 | 5 => 5 | 3 => 3 | n => n, fun | n => n⟩
theorem Tryd.lays137 : Go.Proofs.Lays.n137 Tryd.prog Tryd.lays137_ren := {
  mixed := by kernel_rfl
  f137 := Tryd.func36.trans (congrArg some (by kernel_rfl))
  f217 := Tryd.func50.trans (congrArg some (by kernel_rfl))
  f266 := Tryd.func64.trans (congrArg some (by kernel_rfl))
  t3 := Tryd.underlying3
  a3 := Tryd.isAgg3
  z3 := Tryd.sizeOf3
  v3 := Tryd.zeroValue3
  t5 := Tryd.underlying5
  a5 := Tryd.isAgg5
  z5 := Tryd.sizeOf5
  v5 := Tryd.zeroValue5
  t9 := Tryd.underlying9
  a9 := Tryd.isAgg9
  z9 := Tryd.sizeOf9
  v9 := Tryd.zeroValue9 }
open Go.RowKit in
/-- strings.IndexByte: "IndexByte returns the index of the first instance of c in s, or -1 if c is not present in s.": IT RETURNS 'Lib.indexByte s c'; the world is as it was. (LAID: no walk: one application.) -/
theorem Tryd.strings_IndexByte (s : ByteArray) (c : Int) (w : World) :
    Calls Tryd.prog 36 #[.string s, .int .u8 c] w fun e w' => e = .returned (.int .i64 (Lib.indexByte s.data.toList c.toNat.toUInt8)) ∧ w' = w := Any.strings_IndexByte Tryd.lays137 s c w
def Tryd.lays129_ren : Go.Shelf.Ren := ⟨fun | 129 => 98 | n => n, fun | 53 => 31 | 3 => 3 | 4 => 4 | 46 => 92 | 5 => 5 | 9 => 9 | n => n, fun | n => n⟩
theorem Tryd.lays129 : Go.Proofs.Lays.n129 Tryd.prog Tryd.lays129_ren := {
  mixed := by kernel_rfl
  f129 := Tryd.func98.trans (congrArg some (by kernel_rfl))
  t3 := Tryd.underlying3
  a3 := Tryd.isAgg3
  z3 := Tryd.sizeOf3
  v3 := Tryd.zeroValue3
  t4 := Tryd.underlying4
  a4 := Tryd.isAgg4
  z4 := Tryd.sizeOf4
  v4 := Tryd.zeroValue4
  t5 := Tryd.underlying5
  a5 := Tryd.isAgg5
  z5 := Tryd.sizeOf5
  v5 := Tryd.zeroValue5
  t9 := Tryd.underlying9
  a9 := Tryd.isAgg9
  z9 := Tryd.sizeOf9
  v9 := Tryd.zeroValue9
  t46 := Tryd.underlying92
  a46 := Tryd.isAgg92
  z46 := Tryd.sizeOf92
  v46 := Tryd.zeroValue92
  t53 := Tryd.underlying31
  a53 := Tryd.isAgg31
  z53 := Tryd.sizeOf31
  v53 := Tryd.zeroValue31 }
/-- bits.Len64: "Len64 returns the minimum number of bits required to represent x; the result is 0 for x == 0.": IT RETURNS 'Lib.bitLen x'; the world is as it was. ('h0', 'h1': x is a uint64.) (LAID: no walk: one application.) -/
theorem Tryd.bits_Len64 (x : Int) (w : World) (h0 : 0 ≤ x) (h1 : x ≤ 18446744073709551615) :
    Calls Tryd.prog 98 #[.int .u64 x] w fun e w' => e = .returned (.int .i64 (Lib.bitLen x.toNat)) ∧ w' = w := Any.bits_Len64 Tryd.lays129 x w h0 h1
def Tryd.lays317_ren : Go.Shelf.Ren := ⟨fun | 317 => 97 | n => n, fun | 3 => 3 | 46 => 92 | n => n, fun | n => n⟩
theorem Tryd.lays317 : Go.Proofs.Lays.n317 Tryd.prog Tryd.lays317_ren := {
  mixed := by kernel_rfl
  f317 := Tryd.func97.trans (congrArg some (by kernel_rfl))
  t3 := Tryd.underlying3
  a3 := Tryd.isAgg3
  z3 := Tryd.sizeOf3
  v3 := Tryd.zeroValue3
  t46 := Tryd.underlying92
  a46 := Tryd.isAgg92
  z46 := Tryd.sizeOf92
  v46 := Tryd.zeroValue92 }
open Go.Lib in
/-- internal/strconv.log10Pow2: "log10Pow2(x) returns ⌊log₁₀ 2**x⌋ = ⌊x * log₁₀ 2⌋.": '(x * 78913) >> 18', at an x up to 64 (a length in bits). The world is as it was. (LAID: no walk: one application.) -/
theorem Tryd.internal_strconv_log10Pow2 (x : Nat) (h : x ≤ 64) (w : World) :
    Calls Tryd.prog 97 #[.int .i64 x] w fun e w' => e = .returned (.int .i64 (Lib.l10 x)) ∧ w' = w := Any.internal_strconv_log10Pow2 Tryd.lays317 x h w
def Tryd.lays318_ren : Go.Shelf.Ren := ⟨fun | 318 => 99 | n => n, fun | 3 => 3 | 4 => 4 | n => n, fun | n => n⟩
theorem Tryd.lays318 : Go.Proofs.Lays.n318 Tryd.prog Tryd.lays318_ren := {
  mixed := by kernel_rfl
  f318 := Tryd.func99.trans (congrArg some (by kernel_rfl))
  t3 := Tryd.underlying3
  a3 := Tryd.isAgg3
  z3 := Tryd.sizeOf3
  v3 := Tryd.zeroValue3
  t4 := Tryd.underlying4
  a4 := Tryd.isAgg4
  z4 := Tryd.sizeOf4
  v4 := Tryd.zeroValue4 }
open Go.Lib in
/-- internal/strconv.bool2: "bool2 converts b to an integer: 1 for true, 0 for false." The world is as it was. (LAID: no walk: one application.) -/
theorem Tryd.internal_strconv_bool2_int (b : Bool) (w : World) :
    Calls Tryd.prog 99 #[.bool b] w fun e w' => e = .returned (.int .i64 (if b then 1 else 0)) ∧ w' = w := Any.internal_strconv_bool2_int Tryd.lays318 b w
def Tryd.lays283_ren : Go.Shelf.Ren := ⟨fun | 283 => 85 | n => n, fun | 3 => 3 | 9 => 9 | 4 => 4 | n => n, fun | n => n⟩
theorem Tryd.lays283 : Go.Proofs.Lays.n283 Tryd.prog Tryd.lays283_ren := {
  mixed := by kernel_rfl
  f283 := Tryd.func85.trans (congrArg some (by kernel_rfl))
  t3 := Tryd.underlying3
  a3 := Tryd.isAgg3
  z3 := Tryd.sizeOf3
  v3 := Tryd.zeroValue3
  t4 := Tryd.underlying4
  a4 := Tryd.isAgg4
  z4 := Tryd.sizeOf4
  v4 := Tryd.zeroValue4
  t9 := Tryd.underlying9
  a9 := Tryd.isAgg9
  z9 := Tryd.sizeOf9
  v9 := Tryd.zeroValue9 }
open Go.Lib in
/-- internal/strconv.small: "small returns the string for an i with 0 <= i < nSmalls.": i's decimal numeral. The world is as it was. (LAID: no walk: one application.) -/
theorem Tryd.internal_strconv_small (i : Nat) (h : i < 100) (w : World) :
    Calls Tryd.prog 85 #[.int .i64 i] w fun e w' => e = .returned (.string ⟨(Lib.decDigits i).toArray⟩) ∧ w' = w := Any.internal_strconv_small Tryd.lays283 i h w
def Tryd.laysM284_ren : Go.Shelf.Ren := ⟨fun | 284 => 86 | 129 => 98 | 317 => 97 | 318 => 99 | n => n, fun | 53 => 31 | 3 => 3 | 212 => 138 | 0 => 0 | 4 => 4 | 46 => 92 | 5 => 5 | 9 => 9 | n => n, fun | 17 => 3 | n => n⟩
theorem Tryd.laysM284 : Go.Proofs.LaysM.n284 Tryd.prog Tryd.laysM284_ren := {
  mixed := by kernel_rfl
  f129 := Tryd.func98.trans (congrArg some (by kernel_rfl))
  f284 := Tryd.func86.trans (congrArg some (by kernel_rfl))
  f317 := Tryd.func97.trans (congrArg some (by kernel_rfl))
  f318 := Tryd.func99.trans (congrArg some (by kernel_rfl))
  t0 := Tryd.underlying0
  a0 := Tryd.isAgg0
  z0 := Tryd.sizeOf0
  v0 := Tryd.zeroValue0
  t3 := Tryd.underlying3
  a3 := Tryd.isAgg3
  z3 := Tryd.sizeOf3
  v3 := Tryd.zeroValue3
  t4 := Tryd.underlying4
  a4 := Tryd.isAgg4
  z4 := Tryd.sizeOf4
  v4 := Tryd.zeroValue4
  t5 := Tryd.underlying5
  a5 := Tryd.isAgg5
  z5 := Tryd.sizeOf5
  v5 := Tryd.zeroValue5
  t9 := Tryd.underlying9
  a9 := Tryd.isAgg9
  z9 := Tryd.sizeOf9
  v9 := Tryd.zeroValue9
  t46 := Tryd.underlying92
  a46 := Tryd.isAgg92
  z46 := Tryd.sizeOf92
  v46 := Tryd.zeroValue92
  t53 := Tryd.underlying31
  a53 := Tryd.isAgg31
  z53 := Tryd.sizeOf31
  v53 := Tryd.zeroValue31
  t212 := Tryd.underlying138
  a212 := Tryd.isAgg138
  z212 := Tryd.sizeOf138
  v212 := Tryd.zeroValue138
  g17 := by kernel_rfl
  i0 := by kernel_rfl
  i3 := by kernel_rfl
  i4 := by kernel_rfl
  i5 := by kernel_rfl
  i9 := by kernel_rfl
  i46 := by kernel_rfl
  i53 := by kernel_rfl
  i212 := by kernel_rfl
  m17 := by kernel_rfl }
open Go.Lib in
/-- internal/strconv.numDigits, at a d that is not 0: THE NUMBER OF d's DECIMAL DIGITS. The world is as it was. (LAID: no walk: one application.) -/
theorem Tryd.internal_strconv_numDigits (u : Nat) (h1 : 1 ≤ u) (h2 : u < 18446744073709551616) (w : World) (htab : Lib.TabIs Tryd.prog w "internal/strconv.uint64pow10" .u64 Lib.pow10Tab) :
    Calls Tryd.prog 86 #[.int .u64 u] w fun e w' => e = .returned (.int .i64 (Lib.nDigits u)) ∧ w' = w := Any.internal_strconv_numDigits Tryd.laysM284 u h1 h2 w htab
def Tryd.lays285_ren : Go.Shelf.Ren := ⟨fun | 285 => 87 | n => n, fun | 37 => 93 | 53 => 31 | 3 => 3 | 4 => 4 | 51 => 113 | 9 => 9 | 5 => 5 | 0 => 0 | n => n, fun | n => n⟩
theorem Tryd.lays285 : Go.Proofs.Lays.n285 Tryd.prog Tryd.lays285_ren := {
  mixed := by kernel_rfl
  f285 := Tryd.func87.trans (congrArg some (by kernel_rfl))
  t0 := Tryd.underlying0
  a0 := Tryd.isAgg0
  z0 := Tryd.sizeOf0
  v0 := Tryd.zeroValue0
  t3 := Tryd.underlying3
  a3 := Tryd.isAgg3
  z3 := Tryd.sizeOf3
  v3 := Tryd.zeroValue3
  t4 := Tryd.underlying4
  a4 := Tryd.isAgg4
  z4 := Tryd.sizeOf4
  v4 := Tryd.zeroValue4
  t5 := Tryd.underlying5
  a5 := Tryd.isAgg5
  z5 := Tryd.sizeOf5
  v5 := Tryd.zeroValue5
  t9 := Tryd.underlying9
  a9 := Tryd.isAgg9
  z9 := Tryd.sizeOf9
  v9 := Tryd.zeroValue9
  t37 := Tryd.underlying93
  a37 := Tryd.isAgg93
  z37 := Tryd.sizeOf93
  v37 := Tryd.zeroValue93
  t51 := Tryd.underlying113
  a51 := Tryd.isAgg113
  z51 := Tryd.sizeOf113
  v51 := Tryd.zeroValue113
  t53 := Tryd.underlying31
  a53 := Tryd.isAgg31
  z53 := Tryd.sizeOf31
  v53 := Tryd.zeroValue31 }
open Go.RowKit Go.Sort Go.Lib in
/-- internal/strconv.formatBase10: "formatBase10 formats the decimal representation of u into a. The caller is responsible for ensuring that a is big enough to hold u. If a is too big, leading zeros will be filled in as needed.": THE ROW HOLDS u's DIGITS ('FmtInv .. 0 ..': every place t holds 'dg u (len - 1 - t)'); all else is as it was but for the count of draws. (LAID: no walk: one application.) -/
theorem Tryd.internal_strconv_formatBase10 (blk off cap : Nat) (u : Nat) (d : Array UInt8) (w : World) (hH : Holds (fun (b : UInt8) => Value.int .u8 (b.toNat : Int)) w blk off d) (hu : u < 10 ^ d.size) (hu64 : u < 18446744073709551616) (hsz : d.size < 4611686018427387904) :
    Calls Tryd.prog 87 #[.slice (some ⟨blk, off, none⟩) d.size cap, .int .u64 u] w fun e w' =>
      e = .returned (.tuple #[]) ∧ ∃ (n v' : Nat) (dk : Array UInt8), w' = (putRow (fun (b : UInt8) => Value.int .u8 (b.toNat : Int)) w blk off dk).drewN n ∧ FmtInv d.size u 0 v' dk := Any.internal_strconv_formatBase10 Tryd.lays285 blk off cap u d w hH hu hu64 hsz
def Tryd.laysM246_ren : Go.Shelf.Ren := ⟨fun | 246 => 111 | 283 => 85 | 284 => 86 | 285 => 87 | 286 => 88 | 129 => 98 | 317 => 97 | 318 => 99 | 319 => 100 | 320 => 101 | 337 => 107 | 338 => 108 | n => n, fun | 2 => 2 | 3 => 3 | 9 => 9 | 4 => 4 | 171 => 121 | 0 => 0 | 53 => 31 | 37 => 93 | 5 => 5 | 173 => 124 | 212 => 138 | 51 => 113 | 20 => 20 | 213 => 139 | 46 => 92 | 232 => 152 | 233 => 153 | n => n, fun | 17 => 3 | 18 => 4 | 19 => 5 | n => n⟩
theorem Tryd.laysM246 : Go.Proofs.LaysM.n246 Tryd.prog Tryd.laysM246_ren := {
  mixed := by kernel_rfl
  f129 := Tryd.func98.trans (congrArg some (by kernel_rfl))
  f246 := Tryd.func111.trans (congrArg some (by kernel_rfl))
  f283 := Tryd.func85.trans (congrArg some (by kernel_rfl))
  f284 := Tryd.func86.trans (congrArg some (by kernel_rfl))
  f285 := Tryd.func87.trans (congrArg some (by kernel_rfl))
  f286 := Tryd.func88.trans (congrArg some (by kernel_rfl))
  f317 := Tryd.func97.trans (congrArg some (by kernel_rfl))
  f318 := Tryd.func99.trans (congrArg some (by kernel_rfl))
  f319 := Tryd.func100.trans (congrArg some (by kernel_rfl))
  f320 := Tryd.func101.trans (congrArg some (by kernel_rfl))
  f337 := Tryd.func107.trans (congrArg some (by kernel_rfl))
  f338 := Tryd.func108.trans (congrArg some (by kernel_rfl))
  t0 := Tryd.underlying0
  a0 := Tryd.isAgg0
  z0 := Tryd.sizeOf0
  v0 := Tryd.zeroValue0
  t2 := Tryd.underlying2
  a2 := Tryd.isAgg2
  z2 := Tryd.sizeOf2
  v2 := Tryd.zeroValue2
  t3 := Tryd.underlying3
  a3 := Tryd.isAgg3
  z3 := Tryd.sizeOf3
  v3 := Tryd.zeroValue3
  t4 := Tryd.underlying4
  a4 := Tryd.isAgg4
  z4 := Tryd.sizeOf4
  v4 := Tryd.zeroValue4
  t5 := Tryd.underlying5
  a5 := Tryd.isAgg5
  z5 := Tryd.sizeOf5
  v5 := Tryd.zeroValue5
  t9 := Tryd.underlying9
  a9 := Tryd.isAgg9
  z9 := Tryd.sizeOf9
  v9 := Tryd.zeroValue9
  t20 := Tryd.underlying20
  a20 := Tryd.isAgg20
  z20 := Tryd.sizeOf20
  v20 := Tryd.zeroValue20
  t37 := Tryd.underlying93
  a37 := Tryd.isAgg93
  z37 := Tryd.sizeOf93
  v37 := Tryd.zeroValue93
  t46 := Tryd.underlying92
  a46 := Tryd.isAgg92
  z46 := Tryd.sizeOf92
  v46 := Tryd.zeroValue92
  t51 := Tryd.underlying113
  a51 := Tryd.isAgg113
  z51 := Tryd.sizeOf113
  v51 := Tryd.zeroValue113
  t53 := Tryd.underlying31
  a53 := Tryd.isAgg31
  z53 := Tryd.sizeOf31
  v53 := Tryd.zeroValue31
  t171 := Tryd.underlying121
  a171 := Tryd.isAgg121
  z171 := Tryd.sizeOf121
  v171 := Tryd.zeroValue121
  t173 := Tryd.underlying124
  a173 := Tryd.isAgg124
  z173 := Tryd.sizeOf124
  v173 := Tryd.zeroValue124
  t212 := Tryd.underlying138
  a212 := Tryd.isAgg138
  z212 := Tryd.sizeOf138
  v212 := Tryd.zeroValue138
  t213 := Tryd.underlying139
  a213 := Tryd.isAgg139
  z213 := Tryd.sizeOf139
  t232 := Tryd.underlying152
  a232 := Tryd.isAgg152
  z232 := Tryd.sizeOf152
  v232 := Tryd.zeroValue152
  t233 := Tryd.underlying153
  a233 := Tryd.isAgg153
  z233 := Tryd.sizeOf153
  v233 := Tryd.zeroValue153
  g17 := by kernel_rfl
  g18 := by kernel_rfl
  g19 := by kernel_rfl
  i0 := by kernel_rfl
  i2 := by kernel_rfl
  i3 := by kernel_rfl
  i4 := by kernel_rfl
  i5 := by kernel_rfl
  i9 := by kernel_rfl
  i20 := by kernel_rfl
  i37 := by kernel_rfl
  i46 := by kernel_rfl
  i51 := by kernel_rfl
  i53 := by kernel_rfl
  i171 := by kernel_rfl
  i173 := by kernel_rfl
  i212 := by kernel_rfl
  i232 := by kernel_rfl
  i233 := by kernel_rfl
  m17 := by kernel_rfl
  m18 := by kernel_rfl
  m19 := by kernel_rfl }
open Go.RowKit Go.Sort Go.Lib in
/-- internal/strconv.FormatInt: "FormatInt returns the string representation of i in the given base": AT BASE 10: i's decimal numeral, for every int64. The world behind the call: the world before it, new blocks behind the heap, draws. (LAID: no walk: one application.) -/
theorem Tryd.internal_strconv_FormatInt_10 (n : Int) (h0 : -9223372036854775808 ≤ n) (h1 : n ≤ 9223372036854775807) (w : World) (htab : Lib.TabIs Tryd.prog w "internal/strconv.uint64pow10" .u64 Lib.pow10Tab) :
    Calls Tryd.prog 111 #[.int .i64 n, .int .i64 10] w fun e w' => e = .returned (.string ⟨(Lib.itoa n).toArray⟩) ∧ ∃ k os, w' = grow (w.drewN k) os := Any.internal_strconv_FormatInt_10 Tryd.laysM246 n h0 h1 w htab
def Tryd.lays246_ren : Go.Shelf.Ren := ⟨fun | 246 => 111 | 283 => 85 | 284 => 86 | 285 => 87 | 286 => 88 | 129 => 98 | 317 => 97 | 318 => 99 | 319 => 100 | 320 => 101 | 337 => 107 | 338 => 108 | n => n, fun | 2 => 2 | 3 => 3 | 9 => 9 | 4 => 4 | 171 => 121 | 0 => 0 | 53 => 31 | 37 => 93 | 5 => 5 | 173 => 124 | 212 => 138 | 51 => 113 | 20 => 20 | 213 => 139 | 46 => 92 | 232 => 152 | 233 => 153 | n => n, fun | 17 => 3 | 18 => 4 | 19 => 5 | n => n⟩
theorem Tryd.lays246 : Go.Proofs.Lays.n246 Tryd.prog Tryd.lays246_ren := {
  mixed := by kernel_rfl
  f129 := Tryd.func98.trans (congrArg some (by kernel_rfl))
  f246 := Tryd.func111.trans (congrArg some (by kernel_rfl))
  f283 := Tryd.func85.trans (congrArg some (by kernel_rfl))
  f284 := Tryd.func86.trans (congrArg some (by kernel_rfl))
  f285 := Tryd.func87.trans (congrArg some (by kernel_rfl))
  f286 := Tryd.func88.trans (congrArg some (by kernel_rfl))
  f317 := Tryd.func97.trans (congrArg some (by kernel_rfl))
  f318 := Tryd.func99.trans (congrArg some (by kernel_rfl))
  f319 := Tryd.func100.trans (congrArg some (by kernel_rfl))
  f320 := Tryd.func101.trans (congrArg some (by kernel_rfl))
  f337 := Tryd.func107.trans (congrArg some (by kernel_rfl))
  f338 := Tryd.func108.trans (congrArg some (by kernel_rfl))
  t0 := Tryd.underlying0
  a0 := Tryd.isAgg0
  z0 := Tryd.sizeOf0
  v0 := Tryd.zeroValue0
  t2 := Tryd.underlying2
  a2 := Tryd.isAgg2
  z2 := Tryd.sizeOf2
  v2 := Tryd.zeroValue2
  t3 := Tryd.underlying3
  a3 := Tryd.isAgg3
  z3 := Tryd.sizeOf3
  v3 := Tryd.zeroValue3
  t4 := Tryd.underlying4
  a4 := Tryd.isAgg4
  z4 := Tryd.sizeOf4
  v4 := Tryd.zeroValue4
  t5 := Tryd.underlying5
  a5 := Tryd.isAgg5
  z5 := Tryd.sizeOf5
  v5 := Tryd.zeroValue5
  t9 := Tryd.underlying9
  a9 := Tryd.isAgg9
  z9 := Tryd.sizeOf9
  v9 := Tryd.zeroValue9
  t20 := Tryd.underlying20
  a20 := Tryd.isAgg20
  z20 := Tryd.sizeOf20
  v20 := Tryd.zeroValue20
  t37 := Tryd.underlying93
  a37 := Tryd.isAgg93
  z37 := Tryd.sizeOf93
  v37 := Tryd.zeroValue93
  t46 := Tryd.underlying92
  a46 := Tryd.isAgg92
  z46 := Tryd.sizeOf92
  v46 := Tryd.zeroValue92
  t51 := Tryd.underlying113
  a51 := Tryd.isAgg113
  z51 := Tryd.sizeOf113
  v51 := Tryd.zeroValue113
  t53 := Tryd.underlying31
  a53 := Tryd.isAgg31
  z53 := Tryd.sizeOf31
  v53 := Tryd.zeroValue31
  t171 := Tryd.underlying121
  a171 := Tryd.isAgg121
  z171 := Tryd.sizeOf121
  v171 := Tryd.zeroValue121
  t173 := Tryd.underlying124
  a173 := Tryd.isAgg124
  z173 := Tryd.sizeOf124
  v173 := Tryd.zeroValue124
  t212 := Tryd.underlying138
  a212 := Tryd.isAgg138
  z212 := Tryd.sizeOf138
  v212 := Tryd.zeroValue138
  t213 := Tryd.underlying139
  a213 := Tryd.isAgg139
  z213 := Tryd.sizeOf139
  t232 := Tryd.underlying152
  a232 := Tryd.isAgg152
  z232 := Tryd.sizeOf152
  v232 := Tryd.zeroValue152
  t233 := Tryd.underlying153
  a233 := Tryd.isAgg153
  z233 := Tryd.sizeOf153
  v233 := Tryd.zeroValue153
  g17 := by kernel_rfl
  g18 := by kernel_rfl
  g19 := by kernel_rfl }
open Go.RowKit Go.Sort Go.Lib in
/-- THE ROAD WITHOUT THE TABLE: 0 <= i < 100: two constants are read, nothing is laid: no premise on the world, and the world is as it was. (LAID: no walk: one application.) -/
theorem Tryd.internal_strconv_FormatInt_10_small (i : Nat) (hi : i < 100) (w : World) :
    Calls Tryd.prog 111 #[.int .i64 i, .int .i64 10] w fun e w' => e = .returned (.string ⟨(Lib.decDigits i).toArray⟩) ∧ w' = w := Any.internal_strconv_FormatInt_10_small Tryd.lays246 i hi w
def Tryd.laysM243_ren : Go.Shelf.Ren := ⟨fun | 243 => 106 | 246 => 111 | 283 => 85 | 284 => 86 | 285 => 87 | 286 => 88 | 129 => 98 | 317 => 97 | 318 => 99 | 319 => 100 | 320 => 101 | 337 => 107 | 338 => 108 | n => n, fun | 3 => 3 | 9 => 9 | 2 => 2 | 4 => 4 | 171 => 121 | 0 => 0 | 53 => 31 | 37 => 93 | 5 => 5 | 173 => 124 | 212 => 138 | 51 => 113 | 20 => 20 | 213 => 139 | 46 => 92 | 232 => 152 | 233 => 153 | n => n, fun | 17 => 3 | 18 => 4 | 19 => 5 | n => n⟩
theorem Tryd.laysM243 : Go.Proofs.LaysM.n243 Tryd.prog Tryd.laysM243_ren := {
  mixed := by kernel_rfl
  f129 := Tryd.func98.trans (congrArg some (by kernel_rfl))
  f243 := Tryd.func106.trans (congrArg some (by kernel_rfl))
  f246 := Tryd.func111.trans (congrArg some (by kernel_rfl))
  f283 := Tryd.func85.trans (congrArg some (by kernel_rfl))
  f284 := Tryd.func86.trans (congrArg some (by kernel_rfl))
  f285 := Tryd.func87.trans (congrArg some (by kernel_rfl))
  f286 := Tryd.func88.trans (congrArg some (by kernel_rfl))
  f317 := Tryd.func97.trans (congrArg some (by kernel_rfl))
  f318 := Tryd.func99.trans (congrArg some (by kernel_rfl))
  f319 := Tryd.func100.trans (congrArg some (by kernel_rfl))
  f320 := Tryd.func101.trans (congrArg some (by kernel_rfl))
  f337 := Tryd.func107.trans (congrArg some (by kernel_rfl))
  f338 := Tryd.func108.trans (congrArg some (by kernel_rfl))
  t0 := Tryd.underlying0
  a0 := Tryd.isAgg0
  z0 := Tryd.sizeOf0
  v0 := Tryd.zeroValue0
  t2 := Tryd.underlying2
  a2 := Tryd.isAgg2
  z2 := Tryd.sizeOf2
  v2 := Tryd.zeroValue2
  t3 := Tryd.underlying3
  a3 := Tryd.isAgg3
  z3 := Tryd.sizeOf3
  v3 := Tryd.zeroValue3
  t4 := Tryd.underlying4
  a4 := Tryd.isAgg4
  z4 := Tryd.sizeOf4
  v4 := Tryd.zeroValue4
  t5 := Tryd.underlying5
  a5 := Tryd.isAgg5
  z5 := Tryd.sizeOf5
  v5 := Tryd.zeroValue5
  t9 := Tryd.underlying9
  a9 := Tryd.isAgg9
  z9 := Tryd.sizeOf9
  v9 := Tryd.zeroValue9
  t20 := Tryd.underlying20
  a20 := Tryd.isAgg20
  z20 := Tryd.sizeOf20
  v20 := Tryd.zeroValue20
  t37 := Tryd.underlying93
  a37 := Tryd.isAgg93
  z37 := Tryd.sizeOf93
  v37 := Tryd.zeroValue93
  t46 := Tryd.underlying92
  a46 := Tryd.isAgg92
  z46 := Tryd.sizeOf92
  v46 := Tryd.zeroValue92
  t51 := Tryd.underlying113
  a51 := Tryd.isAgg113
  z51 := Tryd.sizeOf113
  v51 := Tryd.zeroValue113
  t53 := Tryd.underlying31
  a53 := Tryd.isAgg31
  z53 := Tryd.sizeOf31
  v53 := Tryd.zeroValue31
  t171 := Tryd.underlying121
  a171 := Tryd.isAgg121
  z171 := Tryd.sizeOf121
  v171 := Tryd.zeroValue121
  t173 := Tryd.underlying124
  a173 := Tryd.isAgg124
  z173 := Tryd.sizeOf124
  v173 := Tryd.zeroValue124
  t212 := Tryd.underlying138
  a212 := Tryd.isAgg138
  z212 := Tryd.sizeOf138
  v212 := Tryd.zeroValue138
  t213 := Tryd.underlying139
  a213 := Tryd.isAgg139
  z213 := Tryd.sizeOf139
  t232 := Tryd.underlying152
  a232 := Tryd.isAgg152
  z232 := Tryd.sizeOf152
  v232 := Tryd.zeroValue152
  t233 := Tryd.underlying153
  a233 := Tryd.isAgg153
  z233 := Tryd.sizeOf153
  v233 := Tryd.zeroValue153
  g17 := by kernel_rfl
  g18 := by kernel_rfl
  g19 := by kernel_rfl
  i0 := by kernel_rfl
  i2 := by kernel_rfl
  i3 := by kernel_rfl
  i4 := by kernel_rfl
  i5 := by kernel_rfl
  i9 := by kernel_rfl
  i20 := by kernel_rfl
  i37 := by kernel_rfl
  i46 := by kernel_rfl
  i51 := by kernel_rfl
  i53 := by kernel_rfl
  i171 := by kernel_rfl
  i173 := by kernel_rfl
  i212 := by kernel_rfl
  i232 := by kernel_rfl
  i233 := by kernel_rfl
  m17 := by kernel_rfl
  m18 := by kernel_rfl
  m19 := by kernel_rfl }
open Go.RowKit Go.Sort Go.Lib in
/-- internal/strconv.Itoa: "Itoa is equivalent to FormatInt(int64(i), 10).": i's decimal numeral, for every int. (LAID: no walk: one application.) -/
theorem Tryd.internal_strconv_Itoa (n : Int) (h0 : -9223372036854775808 ≤ n) (h1 : n ≤ 9223372036854775807) (w : World) (htab : Lib.TabIs Tryd.prog w "internal/strconv.uint64pow10" .u64 Lib.pow10Tab) :
    Calls Tryd.prog 106 #[.int .i64 n] w fun e w' => e = .returned (.string ⟨(Lib.itoa n).toArray⟩) ∧ ∃ k os, w' = grow (w.drewN k) os := Any.internal_strconv_Itoa Tryd.laysM243 n h0 h1 w htab
def Tryd.lays243_ren : Go.Shelf.Ren := ⟨fun | 243 => 106 | 246 => 111 | 283 => 85 | 284 => 86 | 285 => 87 | 286 => 88 | 129 => 98 | 317 => 97 | 318 => 99 | 319 => 100 | 320 => 101 | 337 => 107 | 338 => 108 | n => n, fun | 3 => 3 | 9 => 9 | 2 => 2 | 4 => 4 | 171 => 121 | 0 => 0 | 53 => 31 | 37 => 93 | 5 => 5 | 173 => 124 | 212 => 138 | 51 => 113 | 20 => 20 | 213 => 139 | 46 => 92 | 232 => 152 | 233 => 153 | n => n, fun | 17 => 3 | 18 => 4 | 19 => 5 | n => n⟩
theorem Tryd.lays243 : Go.Proofs.Lays.n243 Tryd.prog Tryd.lays243_ren := {
  mixed := by kernel_rfl
  f129 := Tryd.func98.trans (congrArg some (by kernel_rfl))
  f243 := Tryd.func106.trans (congrArg some (by kernel_rfl))
  f246 := Tryd.func111.trans (congrArg some (by kernel_rfl))
  f283 := Tryd.func85.trans (congrArg some (by kernel_rfl))
  f284 := Tryd.func86.trans (congrArg some (by kernel_rfl))
  f285 := Tryd.func87.trans (congrArg some (by kernel_rfl))
  f286 := Tryd.func88.trans (congrArg some (by kernel_rfl))
  f317 := Tryd.func97.trans (congrArg some (by kernel_rfl))
  f318 := Tryd.func99.trans (congrArg some (by kernel_rfl))
  f319 := Tryd.func100.trans (congrArg some (by kernel_rfl))
  f320 := Tryd.func101.trans (congrArg some (by kernel_rfl))
  f337 := Tryd.func107.trans (congrArg some (by kernel_rfl))
  f338 := Tryd.func108.trans (congrArg some (by kernel_rfl))
  t0 := Tryd.underlying0
  a0 := Tryd.isAgg0
  z0 := Tryd.sizeOf0
  v0 := Tryd.zeroValue0
  t2 := Tryd.underlying2
  a2 := Tryd.isAgg2
  z2 := Tryd.sizeOf2
  v2 := Tryd.zeroValue2
  t3 := Tryd.underlying3
  a3 := Tryd.isAgg3
  z3 := Tryd.sizeOf3
  v3 := Tryd.zeroValue3
  t4 := Tryd.underlying4
  a4 := Tryd.isAgg4
  z4 := Tryd.sizeOf4
  v4 := Tryd.zeroValue4
  t5 := Tryd.underlying5
  a5 := Tryd.isAgg5
  z5 := Tryd.sizeOf5
  v5 := Tryd.zeroValue5
  t9 := Tryd.underlying9
  a9 := Tryd.isAgg9
  z9 := Tryd.sizeOf9
  v9 := Tryd.zeroValue9
  t20 := Tryd.underlying20
  a20 := Tryd.isAgg20
  z20 := Tryd.sizeOf20
  v20 := Tryd.zeroValue20
  t37 := Tryd.underlying93
  a37 := Tryd.isAgg93
  z37 := Tryd.sizeOf93
  v37 := Tryd.zeroValue93
  t46 := Tryd.underlying92
  a46 := Tryd.isAgg92
  z46 := Tryd.sizeOf92
  v46 := Tryd.zeroValue92
  t51 := Tryd.underlying113
  a51 := Tryd.isAgg113
  z51 := Tryd.sizeOf113
  v51 := Tryd.zeroValue113
  t53 := Tryd.underlying31
  a53 := Tryd.isAgg31
  z53 := Tryd.sizeOf31
  v53 := Tryd.zeroValue31
  t171 := Tryd.underlying121
  a171 := Tryd.isAgg121
  z171 := Tryd.sizeOf121
  v171 := Tryd.zeroValue121
  t173 := Tryd.underlying124
  a173 := Tryd.isAgg124
  z173 := Tryd.sizeOf124
  v173 := Tryd.zeroValue124
  t212 := Tryd.underlying138
  a212 := Tryd.isAgg138
  z212 := Tryd.sizeOf138
  v212 := Tryd.zeroValue138
  t213 := Tryd.underlying139
  a213 := Tryd.isAgg139
  z213 := Tryd.sizeOf139
  t232 := Tryd.underlying152
  a232 := Tryd.isAgg152
  z232 := Tryd.sizeOf152
  v232 := Tryd.zeroValue152
  t233 := Tryd.underlying153
  a233 := Tryd.isAgg153
  z233 := Tryd.sizeOf153
  v233 := Tryd.zeroValue153
  g17 := by kernel_rfl
  g18 := by kernel_rfl
  g19 := by kernel_rfl }
open Go.RowKit Go.Sort Go.Lib in
/-- THE ROAD WITHOUT THE TABLE: 0 <= i < 100. (LAID: no walk: one application.) -/
theorem Tryd.internal_strconv_Itoa_small (i : Nat) (hi : i < 100) (w : World) :
    Calls Tryd.prog 106 #[.int .i64 i] w fun e w' => e = .returned (.string ⟨(Lib.decDigits i).toArray⟩) ∧ w' = w := Any.internal_strconv_Itoa_small Tryd.lays243 i hi w
def Tryd.laysM171_ren : Go.Shelf.Ren := ⟨fun | 171 => 96 | 243 => 106 | 246 => 111 | 283 => 85 | 284 => 86 | 285 => 87 | 286 => 88 | 129 => 98 | 317 => 97 | 318 => 99 | 319 => 100 | 320 => 101 | 337 => 107 | 338 => 108 | n => n, fun | 3 => 3 | 9 => 9 | 2 => 2 | 4 => 4 | 171 => 121 | 0 => 0 | 53 => 31 | 37 => 93 | 5 => 5 | 173 => 124 | 212 => 138 | 51 => 113 | 20 => 20 | 213 => 139 | 46 => 92 | 232 => 152 | 233 => 153 | n => n, fun | 17 => 3 | 18 => 4 | 19 => 5 | n => n⟩
theorem Tryd.laysM171 : Go.Proofs.LaysM.n171 Tryd.prog Tryd.laysM171_ren := {
  mixed := by kernel_rfl
  f129 := Tryd.func98.trans (congrArg some (by kernel_rfl))
  f171 := Tryd.func96.trans (congrArg some (by kernel_rfl))
  f243 := Tryd.func106.trans (congrArg some (by kernel_rfl))
  f246 := Tryd.func111.trans (congrArg some (by kernel_rfl))
  f283 := Tryd.func85.trans (congrArg some (by kernel_rfl))
  f284 := Tryd.func86.trans (congrArg some (by kernel_rfl))
  f285 := Tryd.func87.trans (congrArg some (by kernel_rfl))
  f286 := Tryd.func88.trans (congrArg some (by kernel_rfl))
  f317 := Tryd.func97.trans (congrArg some (by kernel_rfl))
  f318 := Tryd.func99.trans (congrArg some (by kernel_rfl))
  f319 := Tryd.func100.trans (congrArg some (by kernel_rfl))
  f320 := Tryd.func101.trans (congrArg some (by kernel_rfl))
  f337 := Tryd.func107.trans (congrArg some (by kernel_rfl))
  f338 := Tryd.func108.trans (congrArg some (by kernel_rfl))
  t0 := Tryd.underlying0
  a0 := Tryd.isAgg0
  z0 := Tryd.sizeOf0
  v0 := Tryd.zeroValue0
  t2 := Tryd.underlying2
  a2 := Tryd.isAgg2
  z2 := Tryd.sizeOf2
  v2 := Tryd.zeroValue2
  t3 := Tryd.underlying3
  a3 := Tryd.isAgg3
  z3 := Tryd.sizeOf3
  v3 := Tryd.zeroValue3
  t4 := Tryd.underlying4
  a4 := Tryd.isAgg4
  z4 := Tryd.sizeOf4
  v4 := Tryd.zeroValue4
  t5 := Tryd.underlying5
  a5 := Tryd.isAgg5
  z5 := Tryd.sizeOf5
  v5 := Tryd.zeroValue5
  t9 := Tryd.underlying9
  a9 := Tryd.isAgg9
  z9 := Tryd.sizeOf9
  v9 := Tryd.zeroValue9
  t20 := Tryd.underlying20
  a20 := Tryd.isAgg20
  z20 := Tryd.sizeOf20
  v20 := Tryd.zeroValue20
  t37 := Tryd.underlying93
  a37 := Tryd.isAgg93
  z37 := Tryd.sizeOf93
  v37 := Tryd.zeroValue93
  t46 := Tryd.underlying92
  a46 := Tryd.isAgg92
  z46 := Tryd.sizeOf92
  v46 := Tryd.zeroValue92
  t51 := Tryd.underlying113
  a51 := Tryd.isAgg113
  z51 := Tryd.sizeOf113
  v51 := Tryd.zeroValue113
  t53 := Tryd.underlying31
  a53 := Tryd.isAgg31
  z53 := Tryd.sizeOf31
  v53 := Tryd.zeroValue31
  t171 := Tryd.underlying121
  a171 := Tryd.isAgg121
  z171 := Tryd.sizeOf121
  v171 := Tryd.zeroValue121
  t173 := Tryd.underlying124
  a173 := Tryd.isAgg124
  z173 := Tryd.sizeOf124
  v173 := Tryd.zeroValue124
  t212 := Tryd.underlying138
  a212 := Tryd.isAgg138
  z212 := Tryd.sizeOf138
  v212 := Tryd.zeroValue138
  t213 := Tryd.underlying139
  a213 := Tryd.isAgg139
  z213 := Tryd.sizeOf139
  t232 := Tryd.underlying152
  a232 := Tryd.isAgg152
  z232 := Tryd.sizeOf152
  v232 := Tryd.zeroValue152
  t233 := Tryd.underlying153
  a233 := Tryd.isAgg153
  z233 := Tryd.sizeOf153
  v233 := Tryd.zeroValue153
  g17 := by kernel_rfl
  g18 := by kernel_rfl
  g19 := by kernel_rfl
  i0 := by kernel_rfl
  i2 := by kernel_rfl
  i3 := by kernel_rfl
  i4 := by kernel_rfl
  i5 := by kernel_rfl
  i9 := by kernel_rfl
  i20 := by kernel_rfl
  i37 := by kernel_rfl
  i46 := by kernel_rfl
  i51 := by kernel_rfl
  i53 := by kernel_rfl
  i171 := by kernel_rfl
  i173 := by kernel_rfl
  i212 := by kernel_rfl
  i232 := by kernel_rfl
  i233 := by kernel_rfl
  m17 := by kernel_rfl
  m18 := by kernel_rfl
  m19 := by kernel_rfl }
open Go.RowKit Go.Sort Go.Lib in
/-- strconv.Itoa: "Itoa is equivalent to FormatInt(int64(i), 10).": i's DECIMAL NUMERAL ('Lib.itoa': a '-' where i is negative, then the digits), FOR EVERY int. The world behind the call: the world before it, new blocks behind the heap (the library's 'var a [24]byte'), draws. (LAID: no walk: one application.) -/
theorem Tryd.strconv_Itoa (n : Int) (h0 : -9223372036854775808 ≤ n) (h1 : n ≤ 9223372036854775807) (w : World) (htab : Lib.TabIs Tryd.prog w "internal/strconv.uint64pow10" .u64 Lib.pow10Tab) :
    Calls Tryd.prog 96 #[.int .i64 n] w fun e w' => e = .returned (.string ⟨(Lib.itoa n).toArray⟩) ∧ ∃ k os, w' = grow (w.drewN k) os := Any.strconv_Itoa Tryd.laysM171 n h0 h1 w htab
def Tryd.lays171_ren : Go.Shelf.Ren := ⟨fun | 171 => 96 | 243 => 106 | 246 => 111 | 283 => 85 | 284 => 86 | 285 => 87 | 286 => 88 | 129 => 98 | 317 => 97 | 318 => 99 | 319 => 100 | 320 => 101 | 337 => 107 | 338 => 108 | n => n, fun | 3 => 3 | 9 => 9 | 2 => 2 | 4 => 4 | 171 => 121 | 0 => 0 | 53 => 31 | 37 => 93 | 5 => 5 | 173 => 124 | 212 => 138 | 51 => 113 | 20 => 20 | 213 => 139 | 46 => 92 | 232 => 152 | 233 => 153 | n => n, fun | 17 => 3 | 18 => 4 | 19 => 5 | n => n⟩
theorem Tryd.lays171 : Go.Proofs.Lays.n171 Tryd.prog Tryd.lays171_ren := {
  mixed := by kernel_rfl
  f129 := Tryd.func98.trans (congrArg some (by kernel_rfl))
  f171 := Tryd.func96.trans (congrArg some (by kernel_rfl))
  f243 := Tryd.func106.trans (congrArg some (by kernel_rfl))
  f246 := Tryd.func111.trans (congrArg some (by kernel_rfl))
  f283 := Tryd.func85.trans (congrArg some (by kernel_rfl))
  f284 := Tryd.func86.trans (congrArg some (by kernel_rfl))
  f285 := Tryd.func87.trans (congrArg some (by kernel_rfl))
  f286 := Tryd.func88.trans (congrArg some (by kernel_rfl))
  f317 := Tryd.func97.trans (congrArg some (by kernel_rfl))
  f318 := Tryd.func99.trans (congrArg some (by kernel_rfl))
  f319 := Tryd.func100.trans (congrArg some (by kernel_rfl))
  f320 := Tryd.func101.trans (congrArg some (by kernel_rfl))
  f337 := Tryd.func107.trans (congrArg some (by kernel_rfl))
  f338 := Tryd.func108.trans (congrArg some (by kernel_rfl))
  t0 := Tryd.underlying0
  a0 := Tryd.isAgg0
  z0 := Tryd.sizeOf0
  v0 := Tryd.zeroValue0
  t2 := Tryd.underlying2
  a2 := Tryd.isAgg2
  z2 := Tryd.sizeOf2
  v2 := Tryd.zeroValue2
  t3 := Tryd.underlying3
  a3 := Tryd.isAgg3
  z3 := Tryd.sizeOf3
  v3 := Tryd.zeroValue3
  t4 := Tryd.underlying4
  a4 := Tryd.isAgg4
  z4 := Tryd.sizeOf4
  v4 := Tryd.zeroValue4
  t5 := Tryd.underlying5
  a5 := Tryd.isAgg5
  z5 := Tryd.sizeOf5
  v5 := Tryd.zeroValue5
  t9 := Tryd.underlying9
  a9 := Tryd.isAgg9
  z9 := Tryd.sizeOf9
  v9 := Tryd.zeroValue9
  t20 := Tryd.underlying20
  a20 := Tryd.isAgg20
  z20 := Tryd.sizeOf20
  v20 := Tryd.zeroValue20
  t37 := Tryd.underlying93
  a37 := Tryd.isAgg93
  z37 := Tryd.sizeOf93
  v37 := Tryd.zeroValue93
  t46 := Tryd.underlying92
  a46 := Tryd.isAgg92
  z46 := Tryd.sizeOf92
  v46 := Tryd.zeroValue92
  t51 := Tryd.underlying113
  a51 := Tryd.isAgg113
  z51 := Tryd.sizeOf113
  v51 := Tryd.zeroValue113
  t53 := Tryd.underlying31
  a53 := Tryd.isAgg31
  z53 := Tryd.sizeOf31
  v53 := Tryd.zeroValue31
  t171 := Tryd.underlying121
  a171 := Tryd.isAgg121
  z171 := Tryd.sizeOf121
  v171 := Tryd.zeroValue121
  t173 := Tryd.underlying124
  a173 := Tryd.isAgg124
  z173 := Tryd.sizeOf124
  v173 := Tryd.zeroValue124
  t212 := Tryd.underlying138
  a212 := Tryd.isAgg138
  z212 := Tryd.sizeOf138
  v212 := Tryd.zeroValue138
  t213 := Tryd.underlying139
  a213 := Tryd.isAgg139
  z213 := Tryd.sizeOf139
  t232 := Tryd.underlying152
  a232 := Tryd.isAgg152
  z232 := Tryd.sizeOf152
  v232 := Tryd.zeroValue152
  t233 := Tryd.underlying153
  a233 := Tryd.isAgg153
  z233 := Tryd.sizeOf153
  v233 := Tryd.zeroValue153
  g17 := by kernel_rfl
  g18 := by kernel_rfl
  g19 := by kernel_rfl }
open Go.RowKit Go.Sort Go.Lib in
/-- THE ROAD WITHOUT THE TABLE: 0 <= i < 100: NO PREMISE ON THE WORLD, AND THE WORLD IS AS IT WAS: a row that keeps its argument in that range need list no table ('laid = []'). (LAID: no walk: one application.) -/
theorem Tryd.strconv_Itoa_small (i : Nat) (hi : i < 100) (w : World) :
    Calls Tryd.prog 96 #[.int .i64 i] w fun e w' => e = .returned (.string ⟨(Lib.decDigits i).toArray⟩) ∧ w' = w := Any.strconv_Itoa_small Tryd.lays171 i hi w
def Tryd.laysM316_ren : Go.Shelf.Ren := ⟨fun | 316 => 94 | n => n, fun | 9 => 9 | 3 => 3 | 4 => 4 | 37 => 93 | 0 => 0 | 127 => 144 | 5 => 5 | n => n, fun | n => n⟩
theorem Tryd.laysM316 : Go.Proofs.LaysM.n316 Tryd.prog Tryd.laysM316_ren := {
  mixed := by kernel_rfl
  f316 := Tryd.func94.trans (congrArg some (by kernel_rfl))
  t0 := Tryd.underlying0
  a0 := Tryd.isAgg0
  z0 := Tryd.sizeOf0
  v0 := Tryd.zeroValue0
  t3 := Tryd.underlying3
  a3 := Tryd.isAgg3
  z3 := Tryd.sizeOf3
  v3 := Tryd.zeroValue3
  t4 := Tryd.underlying4
  a4 := Tryd.isAgg4
  z4 := Tryd.sizeOf4
  v4 := Tryd.zeroValue4
  t9 := Tryd.underlying9
  a9 := Tryd.isAgg9
  z9 := Tryd.sizeOf9
  v9 := Tryd.zeroValue9
  t37 := Tryd.underlying93
  a37 := Tryd.isAgg93
  z37 := Tryd.sizeOf93
  v37 := Tryd.zeroValue93
  t127 := Tryd.underlying144
  a127 := Tryd.isAgg144
  z127 := Tryd.sizeOf144
  v127 := Tryd.zeroValue144
  t5 := Tryd.underlying5
  a5 := Tryd.isAgg5
  z5 := Tryd.sizeOf5
  v5 := Tryd.zeroValue5
  i0 := by kernel_rfl
  i3 := by kernel_rfl
  i4 := by kernel_rfl
  i5 := by kernel_rfl
  i9 := by kernel_rfl
  i37 := by kernel_rfl
  i127 := by kernel_rfl }
open Go.RowKit in
/-- internal/stringslite.Clone (what strings.Clone calls): "Clone returns a fresh copy of s.": THE SAME BYTES. Of what was there nothing has turned (a new row is laid, and frozen, where s is not empty). (LAID: no walk: one application.) -/
theorem Tryd.stringslite_Clone (s : ByteArray) (w : World) (hlim : s.size ≤ 281474976710656) :
    Calls Tryd.prog 94 #[.string s] w fun e w' => e = .returned (.string s) ∧ Below w.heap.size w w' := Any.stringslite_Clone Tryd.laysM316 s w hlim
def Tryd.laysM279_ren : Go.Shelf.Ren := ⟨fun | 279 => 81 | 316 => 94 | n => n, fun | 9 => 9 | 168 => 118 | 75 => 95 | 210 => 135 | 3 => 3 | 4 => 4 | 37 => 93 | 0 => 0 | 127 => 144 | 80 => 111 | 5 => 5 | n => n, fun | 15 => 1 | n => n⟩
theorem Tryd.laysM279 : Go.Proofs.LaysM.n279 Tryd.prog Tryd.laysM279_ren := {
  mixed := by kernel_rfl
  f279 := Tryd.func81.trans (congrArg some (by kernel_rfl))
  f316 := Tryd.func94.trans (congrArg some (by kernel_rfl))
  t0 := Tryd.underlying0
  a0 := Tryd.isAgg0
  z0 := Tryd.sizeOf0
  v0 := Tryd.zeroValue0
  t3 := Tryd.underlying3
  a3 := Tryd.isAgg3
  z3 := Tryd.sizeOf3
  v3 := Tryd.zeroValue3
  t4 := Tryd.underlying4
  a4 := Tryd.isAgg4
  z4 := Tryd.sizeOf4
  v4 := Tryd.zeroValue4
  t9 := Tryd.underlying9
  a9 := Tryd.isAgg9
  z9 := Tryd.sizeOf9
  v9 := Tryd.zeroValue9
  t37 := Tryd.underlying93
  a37 := Tryd.isAgg93
  z37 := Tryd.sizeOf93
  v37 := Tryd.zeroValue93
  t75 := Tryd.underlying95
  a75 := Tryd.isAgg95
  z75 := Tryd.sizeOf95
  v75 := Tryd.zeroValue95
  t127 := Tryd.underlying144
  a127 := Tryd.isAgg144
  z127 := Tryd.sizeOf144
  v127 := Tryd.zeroValue144
  t168 := Tryd.underlying118
  a168 := Tryd.isAgg118
  z168 := Tryd.sizeOf118
  v168 := Tryd.zeroValue118
  t210 := Tryd.underlying135
  a210 := Tryd.isAgg135
  z210 := Tryd.sizeOf135
  v210 := Tryd.zeroValue135
  g15 := by kernel_rfl
  t5 := Tryd.underlying5
  a5 := Tryd.isAgg5
  z5 := Tryd.sizeOf5
  v5 := Tryd.zeroValue5
  t80 := Tryd.underlying111
  a80 := Tryd.isAgg111
  z80 := Tryd.sizeOf111
  v80 := Tryd.zeroValue111
  i0 := by kernel_rfl
  i3 := by kernel_rfl
  i4 := by kernel_rfl
  i5 := by kernel_rfl
  i9 := by kernel_rfl
  i37 := by kernel_rfl
  i75 := by kernel_rfl
  i80 := by kernel_rfl
  i127 := by kernel_rfl
  i168 := by kernel_rfl
  i210 := by kernel_rfl
  m15 := by kernel_rfl }
open Go.RowKit in
/-- strconv.syntaxError: '&NumError{fn, stringslite.Clone(str), ErrSyntax}': A POINTER TO A NEW BLOCK that holds fn, str's bytes, and what the variable ErrSyntax holds. Of what was there nothing has turned. (LAID: no walk: one application.) -/
theorem Tryd.strconv_syntaxError (fn s : ByteArray) (ev : Value) (w : World) (hlim : s.size ≤ 281474976710656) (hv : w.cell? ⟨1, 0, none⟩ = some ev) (hev : ev = .nilIface ∨ ∃ te pe, ev = .iface te pe) :
    Calls Tryd.prog 81 #[.string fn, .string s] w fun e w' => ∃ N, e = .returned (.pointer (some ⟨N, 0, none⟩)) ∧ w.heap.size ≤ N ∧ w'.heap[N]? = some (.cells #[.string fn, .string s, ev] 135 (0, 0)) ∧ Below w.heap.size w w' := Any.strconv_syntaxError Tryd.laysM279 fn s ev w hlim hv hev
def Tryd.laysC245_ren : Go.Shelf.Ren := ⟨fun | 245 => 66 | 279 => 81 | 280 => 82 | 281 => 83 | 282 => 84 | 316 => 94 | 171 => 96 | 205 => 95 | 243 => 106 | 246 => 111 | 283 => 85 | 284 => 86 | 285 => 87 | 286 => 88 | 129 => 98 | 317 => 97 | 318 => 99 | 319 => 100 | 320 => 101 | 337 => 107 | 338 => 108 | n => n, fun | 9 => 9 | 3 => 3 | 75 => 95 | 167 => 116 | 4 => 4 | 168 => 118 | 210 => 135 | 37 => 93 | 0 => 0 | 127 => 144 | 145 => 147 | 143 => 145 | 2 => 2 | 171 => 121 | 53 => 31 | 5 => 5 | 173 => 124 | 212 => 138 | 51 => 113 | 20 => 20 | 213 => 139 | 46 => 92 | 232 => 152 | 233 => 153 | 80 => 111 | n => n, fun | 15 => 1 | 16 => 2 | 17 => 3 | 18 => 4 | 19 => 5 | n => n⟩
theorem Tryd.laysC245 : Go.Proofs.LaysC.n245 Tryd.prog Tryd.laysC245_ren := {
  mixed := by kernel_rfl
  f129 := Tryd.func98.trans (congrArg some (by kernel_rfl))
  f171 := Tryd.func96.trans (congrArg some (by kernel_rfl))
  f205 := Tryd.func95.trans (congrArg some (by kernel_rfl))
  f243 := Tryd.func106.trans (congrArg some (by kernel_rfl))
  f245 := Tryd.func66.trans (congrArg some (by kernel_rfl))
  f246 := Tryd.func111.trans (congrArg some (by kernel_rfl))
  f279 := Tryd.func81.trans (congrArg some (by kernel_rfl))
  f280 := Tryd.func82.trans (congrArg some (by kernel_rfl))
  f281 := Tryd.func83.trans (congrArg some (by kernel_rfl))
  f282 := Tryd.func84.trans (congrArg some (by kernel_rfl))
  f283 := Tryd.func85.trans (congrArg some (by kernel_rfl))
  f284 := Tryd.func86.trans (congrArg some (by kernel_rfl))
  f285 := Tryd.func87.trans (congrArg some (by kernel_rfl))
  f286 := Tryd.func88.trans (congrArg some (by kernel_rfl))
  f316 := Tryd.func94.trans (congrArg some (by kernel_rfl))
  f317 := Tryd.func97.trans (congrArg some (by kernel_rfl))
  f318 := Tryd.func99.trans (congrArg some (by kernel_rfl))
  f319 := Tryd.func100.trans (congrArg some (by kernel_rfl))
  f320 := Tryd.func101.trans (congrArg some (by kernel_rfl))
  f337 := Tryd.func107.trans (congrArg some (by kernel_rfl))
  f338 := Tryd.func108.trans (congrArg some (by kernel_rfl))
  t0 := Tryd.underlying0
  a0 := Tryd.isAgg0
  z0 := Tryd.sizeOf0
  v0 := Tryd.zeroValue0
  t2 := Tryd.underlying2
  a2 := Tryd.isAgg2
  z2 := Tryd.sizeOf2
  v2 := Tryd.zeroValue2
  t3 := Tryd.underlying3
  a3 := Tryd.isAgg3
  z3 := Tryd.sizeOf3
  v3 := Tryd.zeroValue3
  t4 := Tryd.underlying4
  a4 := Tryd.isAgg4
  z4 := Tryd.sizeOf4
  v4 := Tryd.zeroValue4
  t5 := Tryd.underlying5
  a5 := Tryd.isAgg5
  z5 := Tryd.sizeOf5
  v5 := Tryd.zeroValue5
  t9 := Tryd.underlying9
  a9 := Tryd.isAgg9
  z9 := Tryd.sizeOf9
  v9 := Tryd.zeroValue9
  t20 := Tryd.underlying20
  a20 := Tryd.isAgg20
  z20 := Tryd.sizeOf20
  v20 := Tryd.zeroValue20
  t37 := Tryd.underlying93
  a37 := Tryd.isAgg93
  z37 := Tryd.sizeOf93
  v37 := Tryd.zeroValue93
  t46 := Tryd.underlying92
  a46 := Tryd.isAgg92
  z46 := Tryd.sizeOf92
  v46 := Tryd.zeroValue92
  t51 := Tryd.underlying113
  a51 := Tryd.isAgg113
  z51 := Tryd.sizeOf113
  v51 := Tryd.zeroValue113
  t53 := Tryd.underlying31
  a53 := Tryd.isAgg31
  z53 := Tryd.sizeOf31
  v53 := Tryd.zeroValue31
  t75 := Tryd.underlying95
  a75 := Tryd.isAgg95
  z75 := Tryd.sizeOf95
  v75 := Tryd.zeroValue95
  t127 := Tryd.underlying144
  a127 := Tryd.isAgg144
  z127 := Tryd.sizeOf144
  v127 := Tryd.zeroValue144
  t143 := Tryd.underlying145
  a143 := Tryd.isAgg145
  z143 := Tryd.sizeOf145
  v143 := Tryd.zeroValue145
  t145 := Tryd.underlying147
  a145 := Tryd.isAgg147
  z145 := Tryd.sizeOf147
  v145 := Tryd.zeroValue147
  t167 := Tryd.underlying116
  a167 := Tryd.isAgg116
  z167 := Tryd.sizeOf116
  v167 := Tryd.zeroValue116
  t168 := Tryd.underlying118
  a168 := Tryd.isAgg118
  z168 := Tryd.sizeOf118
  v168 := Tryd.zeroValue118
  t171 := Tryd.underlying121
  a171 := Tryd.isAgg121
  z171 := Tryd.sizeOf121
  v171 := Tryd.zeroValue121
  t173 := Tryd.underlying124
  a173 := Tryd.isAgg124
  z173 := Tryd.sizeOf124
  v173 := Tryd.zeroValue124
  t210 := Tryd.underlying135
  a210 := Tryd.isAgg135
  z210 := Tryd.sizeOf135
  v210 := Tryd.zeroValue135
  t212 := Tryd.underlying138
  a212 := Tryd.isAgg138
  z212 := Tryd.sizeOf138
  v212 := Tryd.zeroValue138
  t213 := Tryd.underlying139
  a213 := Tryd.isAgg139
  z213 := Tryd.sizeOf139
  t232 := Tryd.underlying152
  a232 := Tryd.isAgg152
  z232 := Tryd.sizeOf152
  v232 := Tryd.zeroValue152
  t233 := Tryd.underlying153
  a233 := Tryd.isAgg153
  z233 := Tryd.sizeOf153
  v233 := Tryd.zeroValue153
  g15 := by kernel_rfl
  g16 := by kernel_rfl
  g17 := by kernel_rfl
  g18 := by kernel_rfl
  g19 := by kernel_rfl
  t80 := Tryd.underlying111
  a80 := Tryd.isAgg111
  z80 := Tryd.sizeOf111
  v80 := Tryd.zeroValue111
  i0 := by kernel_rfl
  i2 := by kernel_rfl
  i3 := by kernel_rfl
  i4 := by kernel_rfl
  i5 := by kernel_rfl
  i9 := by kernel_rfl
  i20 := by kernel_rfl
  i37 := by kernel_rfl
  i46 := by kernel_rfl
  i51 := by kernel_rfl
  i53 := by kernel_rfl
  i75 := by kernel_rfl
  i80 := by kernel_rfl
  i127 := by kernel_rfl
  i143 := by kernel_rfl
  i145 := by kernel_rfl
  i167 := by kernel_rfl
  i168 := by kernel_rfl
  i171 := by kernel_rfl
  i173 := by kernel_rfl
  i210 := by kernel_rfl
  i212 := by kernel_rfl
  i232 := by kernel_rfl
  i233 := by kernel_rfl
  m15 := by kernel_rfl
  m16 := by kernel_rfl
  m17 := by kernel_rfl
  m18 := by kernel_rfl
  m19 := by kernel_rfl
  c0 := by kernel_rfl
  c2 := by kernel_rfl
  c3 := by kernel_rfl
  c4 := by kernel_rfl
  c5 := by kernel_rfl
  c9 := by kernel_rfl
  c20 := by kernel_rfl
  c37 := by kernel_rfl
  c46 := by kernel_rfl
  c51 := by kernel_rfl
  c53 := by kernel_rfl
  c75 := by kernel_rfl
  c80 := by kernel_rfl
  c127 := by kernel_rfl
  c143 := by kernel_rfl
  c145 := by kernel_rfl
  c167 := by kernel_rfl
  c168 := by kernel_rfl
  c171 := by kernel_rfl
  c173 := by kernel_rfl
  c210 := by kernel_rfl
  c212 := by kernel_rfl
  c213 := by kernel_rfl
  c232 := by kernel_rfl
  c233 := by kernel_rfl }
open Go.RowKit in
/-- strconv.toError, at the inner package's ErrSyntax: 'syntaxError(fn, s)' as an error: A *NumError IN A NEW BLOCK. (LAID: no walk: one application.) -/
theorem Tryd.strconv_toError_syntax (fn s : ByteArray) (base bits : Int) (ev : Value) (w : World) (hlim : s.size ≤ 281474976710656) (hv : w.cell? ⟨1, 0, none⟩ = some ev) (hev : ev = .nilIface ∨ ∃ te pe, ev = .iface te pe) :
    Calls Tryd.prog 66 #[.string fn, .string s, .int .i64 base, .int .i64 bits, .iface 116 (.int .i64 2)] w fun e w' => ∃ N, e = .returned (.iface 118 (.pointer (some ⟨N, 0, none⟩))) ∧ w.heap.size ≤ N ∧ w'.heap[N]? = some (.cells #[.string fn, .string s, ev] 135 (0, 0)) ∧ Below w.heap.size w w' := Any.strconv_toError_syntax Tryd.laysC245 fn s base bits ev w hlim hv hev
def Tryd.lays321_ren : Go.Shelf.Ren := ⟨fun | 321 => 79 | n => n, fun | 5 => 5 | n => n, fun | n => n⟩
theorem Tryd.lays321 : Go.Proofs.Lays.n321 Tryd.prog Tryd.lays321_ren := {
  mixed := by kernel_rfl
  f321 := Tryd.func79.trans (congrArg some (by kernel_rfl))
  t5 := Tryd.underlying5
  a5 := Tryd.isAgg5
  z5 := Tryd.sizeOf5
  v5 := Tryd.zeroValue5 }
open Go.RowKit in
/-- internal/strconv.lower: 'c | ('x' - 'X')': the bit 32 set. The world is as it was. (LAID: no walk: one application.) -/
theorem Tryd.internal_strconv_lower (c : Int) (w : World) :
    Calls Tryd.prog 79 #[.int .u8 c] w fun e w' => e = .returned (.int .u8 (bits .or .u8 c 32)) ∧ w' = w := Any.internal_strconv_lower Tryd.lays321 c w
def Tryd.laysM280_ren : Go.Shelf.Ren := ⟨fun | 280 => 82 | 316 => 94 | n => n, fun | 9 => 9 | 168 => 118 | 75 => 95 | 210 => 135 | 3 => 3 | 4 => 4 | 37 => 93 | 0 => 0 | 127 => 144 | 80 => 111 | 5 => 5 | n => n, fun | 16 => 2 | n => n⟩
theorem Tryd.laysM280 : Go.Proofs.LaysM.n280 Tryd.prog Tryd.laysM280_ren := {
  mixed := by kernel_rfl
  f280 := Tryd.func82.trans (congrArg some (by kernel_rfl))
  f316 := Tryd.func94.trans (congrArg some (by kernel_rfl))
  t0 := Tryd.underlying0
  a0 := Tryd.isAgg0
  z0 := Tryd.sizeOf0
  v0 := Tryd.zeroValue0
  t3 := Tryd.underlying3
  a3 := Tryd.isAgg3
  z3 := Tryd.sizeOf3
  v3 := Tryd.zeroValue3
  t4 := Tryd.underlying4
  a4 := Tryd.isAgg4
  z4 := Tryd.sizeOf4
  v4 := Tryd.zeroValue4
  t9 := Tryd.underlying9
  a9 := Tryd.isAgg9
  z9 := Tryd.sizeOf9
  v9 := Tryd.zeroValue9
  t37 := Tryd.underlying93
  a37 := Tryd.isAgg93
  z37 := Tryd.sizeOf93
  v37 := Tryd.zeroValue93
  t75 := Tryd.underlying95
  a75 := Tryd.isAgg95
  z75 := Tryd.sizeOf95
  v75 := Tryd.zeroValue95
  t127 := Tryd.underlying144
  a127 := Tryd.isAgg144
  z127 := Tryd.sizeOf144
  v127 := Tryd.zeroValue144
  t168 := Tryd.underlying118
  a168 := Tryd.isAgg118
  z168 := Tryd.sizeOf118
  v168 := Tryd.zeroValue118
  t210 := Tryd.underlying135
  a210 := Tryd.isAgg135
  z210 := Tryd.sizeOf135
  v210 := Tryd.zeroValue135
  g16 := by kernel_rfl
  t5 := Tryd.underlying5
  a5 := Tryd.isAgg5
  z5 := Tryd.sizeOf5
  v5 := Tryd.zeroValue5
  t80 := Tryd.underlying111
  a80 := Tryd.isAgg111
  z80 := Tryd.sizeOf111
  v80 := Tryd.zeroValue111
  i0 := by kernel_rfl
  i3 := by kernel_rfl
  i4 := by kernel_rfl
  i5 := by kernel_rfl
  i9 := by kernel_rfl
  i37 := by kernel_rfl
  i75 := by kernel_rfl
  i80 := by kernel_rfl
  i127 := by kernel_rfl
  i168 := by kernel_rfl
  i210 := by kernel_rfl
  m16 := by kernel_rfl }
open Go.RowKit in
/-- strconv.rangeError: '&NumError{fn, stringslite.Clone(str), ErrRange}': A POINTER TO A NEW BLOCK that holds fn, str's bytes, and what the variable ErrRange holds. Of what was there nothing has turned. (LAID: no walk: one application.) -/
theorem Tryd.strconv_rangeError (fn s : ByteArray) (ev : Value) (w : World) (hlim : s.size ≤ 281474976710656) (hv : w.cell? ⟨2, 0, none⟩ = some ev) (hev : ev = .nilIface ∨ ∃ te pe, ev = .iface te pe) :
    Calls Tryd.prog 82 #[.string fn, .string s] w fun e w' => ∃ N, e = .returned (.pointer (some ⟨N, 0, none⟩)) ∧ w.heap.size ≤ N ∧ w'.heap[N]? = some (.cells #[.string fn, .string s, ev] 135 (0, 0)) ∧ Below w.heap.size w w' := Any.strconv_rangeError Tryd.laysM280 fn s ev w hlim hv hev
open Go.RowKit in
/-- strconv.toError, at the inner package's ErrRange: 'rangeError(fn, s)' as an error: A *NumError IN A NEW BLOCK. (LAID: no walk: one application.) -/
theorem Tryd.strconv_toError_range (fn s : ByteArray) (base bits : Int) (ev : Value) (w : World) (hlim : s.size ≤ 281474976710656) (hv : w.cell? ⟨2, 0, none⟩ = some ev) (hev : ev = .nilIface ∨ ∃ te pe, ev = .iface te pe) :
    Calls Tryd.prog 66 #[.string fn, .string s, .int .i64 base, .int .i64 bits, .iface 116 (.int .i64 1)] w fun e w' => ∃ N, e = .returned (.iface 118 (.pointer (some ⟨N, 0, none⟩))) ∧ w.heap.size ≤ N ∧ w'.heap[N]? = some (.cells #[.string fn, .string s, ev] 135 (0, 0)) ∧ Below w.heap.size w w' := Any.strconv_toError_range Tryd.laysC245 fn s base bits ev w hlim hv hev
def Tryd.lays217_ren : Go.Shelf.Ren := ⟨fun | 217 => 50 | 266 => 64 | n => n, fun | 9 => 9 | 5 => 5 | 3 => 3 | n => n, fun | n => n⟩
theorem Tryd.lays217 : Go.Proofs.Lays.n217 Tryd.prog Tryd.lays217_ren := {
  mixed := by kernel_rfl
  f217 := Tryd.func50.trans (congrArg some (by kernel_rfl))
  f266 := Tryd.func64.trans (congrArg some (by kernel_rfl))
  t3 := Tryd.underlying3
  a3 := Tryd.isAgg3
  z3 := Tryd.sizeOf3
  v3 := Tryd.zeroValue3
  t5 := Tryd.underlying5
  a5 := Tryd.isAgg5
  z5 := Tryd.sizeOf5
  v5 := Tryd.zeroValue5
  t9 := Tryd.underlying9
  a9 := Tryd.isAgg9
  z9 := Tryd.sizeOf9
  v9 := Tryd.zeroValue9 }
open Go.RowKit Go.Lib in
/-- internal/stringslite.IndexByte (what strings.IndexByte calls): IT RETURNS 'Lib.indexByte s c'; the world is as it was. (LAID: no walk: one application.) -/
theorem Tryd.stringslite_IndexByte (s : ByteArray) (c : Int) (w : World) :
    Calls Tryd.prog 50 #[.string s, .int .u8 c] w fun e w' => e = .returned (.int .i64 (Lib.indexByte s.data.toList c.toNat.toUInt8)) ∧ w' = w := Any.stringslite_IndexByte Tryd.lays217 s c w
def Tryd.lays224_ren : Go.Shelf.Ren := ⟨fun | 224 => 62 | n => n, fun | 3 => 3 | n => n, fun | n => n⟩
theorem Tryd.lays224 : Go.Proofs.Lays.n224 Tryd.prog Tryd.lays224_ren := {
  mixed := by kernel_rfl
  f224 := Tryd.func62.trans (congrArg some (by kernel_rfl))
  t3 := Tryd.underlying3
  a3 := Tryd.isAgg3
  z3 := Tryd.sizeOf3
  v3 := Tryd.zeroValue3 }
open Go.RowKit Go.Lib in
/-- internal/bytealg.Cutover: "Cutover reports the number of failures of IndexByte we should tolerate before switching over to Index. n is the number of bytes processed so far.": on amd64: (n + 16) / 8. (LAID: no walk: one application.) -/
theorem Tryd.bytealg_Cutover (n : Int) (h0 : 0 ≤ n) (h1 : n < 4611686018427387904) (w : World) :
    Calls Tryd.prog 62 #[.int .i64 n] w fun e w' => e = .returned (.int .i64 ((n + 16) / 8)) ∧ w' = w := Any.bytealg_Cutover Tryd.lays224 n h0 h1 w
def Tryd.lays314_ren : Go.Shelf.Ren := ⟨fun | 314 => 78 | n => n, fun | 9 => 9 | 51 => 113 | 3 => 3 | 4 => 4 | 5 => 5 | 46 => 92 | n => n, fun | n => n⟩
theorem Tryd.lays314 : Go.Proofs.Lays.n314 Tryd.prog Tryd.lays314_ren := {
  mixed := by kernel_rfl
  f314 := Tryd.func78.trans (congrArg some (by kernel_rfl))
  t3 := Tryd.underlying3
  a3 := Tryd.isAgg3
  z3 := Tryd.sizeOf3
  v3 := Tryd.zeroValue3
  t4 := Tryd.underlying4
  a4 := Tryd.isAgg4
  z4 := Tryd.sizeOf4
  v4 := Tryd.zeroValue4
  t5 := Tryd.underlying5
  a5 := Tryd.isAgg5
  z5 := Tryd.sizeOf5
  v5 := Tryd.zeroValue5
  t9 := Tryd.underlying9
  a9 := Tryd.isAgg9
  z9 := Tryd.sizeOf9
  v9 := Tryd.zeroValue9
  t46 := Tryd.underlying92
  a46 := Tryd.isAgg92
  z46 := Tryd.sizeOf92
  v46 := Tryd.zeroValue92
  t51 := Tryd.underlying113
  a51 := Tryd.isAgg113
  z51 := Tryd.sizeOf113
  v51 := Tryd.zeroValue113 }
open Go.RowKit Go.Lib in
/-- hashStr: "returns the hash and the appropriate multiplicative factor for use in Rabin-Karp algorithm": THE HASH OF ALL OF sep, AND 16777619 ^ len(sep), both in uint32. (LAID: no walk: one application.) -/
theorem Tryd.bytealg_hashStr (sep : ByteArray) (hs : sep.size < 4294967281) (w : World) :
    Calls Tryd.prog 78 #[.string sep] w fun e w' => e = .returned (.tuple #[.int .u32 (RK.H sep.data.toList % 4294967296), .int .u32 (16777619 ^ sep.size % 4294967296)]) ∧ w' = w := Any.bytealg_hashStr Tryd.lays314 sep hs w
def Tryd.lays267_ren : Go.Shelf.Ren := ⟨fun | 267 => 63 | 314 => 78 | n => n, fun | 9 => 9 | 3 => 3 | 146 => 114 | 51 => 113 | 4 => 4 | 5 => 5 | 46 => 92 | n => n, fun | n => n⟩
theorem Tryd.lays267 : Go.Proofs.Lays.n267 Tryd.prog Tryd.lays267_ren := {
  mixed := by kernel_rfl
  f267 := Tryd.func63.trans (congrArg some (by kernel_rfl))
  f314 := Tryd.func78.trans (congrArg some (by kernel_rfl))
  t3 := Tryd.underlying3
  a3 := Tryd.isAgg3
  z3 := Tryd.sizeOf3
  v3 := Tryd.zeroValue3
  t4 := Tryd.underlying4
  a4 := Tryd.isAgg4
  z4 := Tryd.sizeOf4
  v4 := Tryd.zeroValue4
  t5 := Tryd.underlying5
  a5 := Tryd.isAgg5
  z5 := Tryd.sizeOf5
  v5 := Tryd.zeroValue5
  t9 := Tryd.underlying9
  a9 := Tryd.isAgg9
  z9 := Tryd.sizeOf9
  v9 := Tryd.zeroValue9
  t46 := Tryd.underlying92
  a46 := Tryd.isAgg92
  z46 := Tryd.sizeOf92
  v46 := Tryd.zeroValue92
  t51 := Tryd.underlying113
  a51 := Tryd.isAgg113
  z51 := Tryd.sizeOf113
  v51 := Tryd.zeroValue113
  t146 := Tryd.underlying114
  a146 := Tryd.isAgg114
  z146 := Tryd.sizeOf114
  v146 := Tryd.zeroValue114 }
open Go.RowKit Go.Lib in
theorem Tryd.bytealg_IndexRabinKarp (s sep : ByteArray) (h1 : 1 ≤ sep.size) (h2 : sep.size ≤ s.size) (hs : s.size < 4294967281) (w : World) :
    Calls Tryd.prog 63 #[.string s, .string sep] w fun e w' => e = .returned (.int .i64 (Lib.index s.data.toList sep.data.toList)) ∧ w' = w := Any.bytealg_IndexRabinKarp Tryd.lays267 s sep h1 h2 hs w
def Tryd.lays219_ren : Go.Shelf.Ren := ⟨fun | 219 => 48 | 217 => 50 | 225 => 61 | 224 => 62 | 267 => 63 | 266 => 64 | 314 => 78 | n => n, fun | 9 => 9 | 3 => 3 | 4 => 4 | 5 => 5 | 46 => 92 | 146 => 114 | 51 => 113 | n => n, fun | 1 => 0 | n => n⟩
theorem Tryd.lays219 : Go.Proofs.Lays.n219 Tryd.prog Tryd.lays219_ren := {
  mixed := by kernel_rfl
  f217 := Tryd.func50.trans (congrArg some (by kernel_rfl))
  f219 := Tryd.func48.trans (congrArg some (by kernel_rfl))
  f224 := Tryd.func62.trans (congrArg some (by kernel_rfl))
  f225 := Tryd.func61.trans (congrArg some (by kernel_rfl))
  f266 := Tryd.func64.trans (congrArg some (by kernel_rfl))
  f267 := Tryd.func63.trans (congrArg some (by kernel_rfl))
  f314 := Tryd.func78.trans (congrArg some (by kernel_rfl))
  t3 := Tryd.underlying3
  a3 := Tryd.isAgg3
  z3 := Tryd.sizeOf3
  v3 := Tryd.zeroValue3
  t4 := Tryd.underlying4
  a4 := Tryd.isAgg4
  z4 := Tryd.sizeOf4
  v4 := Tryd.zeroValue4
  t5 := Tryd.underlying5
  a5 := Tryd.isAgg5
  z5 := Tryd.sizeOf5
  v5 := Tryd.zeroValue5
  t9 := Tryd.underlying9
  a9 := Tryd.isAgg9
  z9 := Tryd.sizeOf9
  v9 := Tryd.zeroValue9
  t46 := Tryd.underlying92
  a46 := Tryd.isAgg92
  z46 := Tryd.sizeOf92
  v46 := Tryd.zeroValue92
  t51 := Tryd.underlying113
  a51 := Tryd.isAgg113
  z51 := Tryd.sizeOf113
  v51 := Tryd.zeroValue113
  t146 := Tryd.underlying114
  a146 := Tryd.isAgg114
  z146 := Tryd.sizeOf114
  v146 := Tryd.zeroValue114
  g1 := by kernel_rfl }
open Go.RowKit Go.Lib in
/-- internal/stringslite.Index (what strings.Index calls) AT A substr OF ONE BYTE c: IT RETURNS 'Lib.indexByte s c'; the world is as it was. (LAID: no walk: one application.) -/
theorem Tryd.stringslite_Index_one (s : ByteArray) (c : UInt8) (w : World) :
    Calls Tryd.prog 48 #[.string s, .string ⟨#[c]⟩] w fun e w' => e = .returned (.int .i64 (Lib.indexByte s.data.toList c)) ∧ w' = w := Any.stringslite_Index_one Tryd.lays219 s c w
open Go.RowKit Go.Lib in
/-- internal/stringslite.Index (what strings.Index calls) AT A substr OF WHATEVER LENGTH: IT RETURNS 'Lib.index s substr'; the world is as it was. 'm': what internal/bytealg.MaxLen holds: whatever. (LAID: no walk: one application.) -/
theorem Tryd.stringslite_Index (s sub : ByteArray) (m : Int) (w : World) (hs : s.size < 4294967281) (hm : w.cell? ⟨0, 0, none⟩ = some (.int .i64 m)) :
    Calls Tryd.prog 48 #[.string s, .string sub] w fun e w' => e = .returned (.int .i64 (Lib.index s.data.toList sub.data.toList)) ∧ w' = w := Any.stringslite_Index Tryd.lays219 s sub m w hs hm
def Tryd.lays143_ren : Go.Shelf.Ren := ⟨fun | 143 => 31 | 219 => 48 | 217 => 50 | 225 => 61 | 224 => 62 | 267 => 63 | 266 => 64 | 314 => 78 | n => n, fun | 9 => 9 | 3 => 3 | 4 => 4 | 5 => 5 | 46 => 92 | 146 => 114 | 51 => 113 | n => n, fun | 1 => 0 | n => n⟩
theorem Tryd.lays143 : Go.Proofs.Lays.n143 Tryd.prog Tryd.lays143_ren := {
  mixed := by kernel_rfl
  f143 := Tryd.func31.trans (congrArg some (by kernel_rfl))
  f217 := Tryd.func50.trans (congrArg some (by kernel_rfl))
  f219 := Tryd.func48.trans (congrArg some (by kernel_rfl))
  f224 := Tryd.func62.trans (congrArg some (by kernel_rfl))
  f225 := Tryd.func61.trans (congrArg some (by kernel_rfl))
  f266 := Tryd.func64.trans (congrArg some (by kernel_rfl))
  f267 := Tryd.func63.trans (congrArg some (by kernel_rfl))
  f314 := Tryd.func78.trans (congrArg some (by kernel_rfl))
  t3 := Tryd.underlying3
  a3 := Tryd.isAgg3
  z3 := Tryd.sizeOf3
  v3 := Tryd.zeroValue3
  t4 := Tryd.underlying4
  a4 := Tryd.isAgg4
  z4 := Tryd.sizeOf4
  v4 := Tryd.zeroValue4
  t5 := Tryd.underlying5
  a5 := Tryd.isAgg5
  z5 := Tryd.sizeOf5
  v5 := Tryd.zeroValue5
  t9 := Tryd.underlying9
  a9 := Tryd.isAgg9
  z9 := Tryd.sizeOf9
  v9 := Tryd.zeroValue9
  t46 := Tryd.underlying92
  a46 := Tryd.isAgg92
  z46 := Tryd.sizeOf92
  v46 := Tryd.zeroValue92
  t51 := Tryd.underlying113
  a51 := Tryd.isAgg113
  z51 := Tryd.sizeOf113
  v51 := Tryd.zeroValue113
  t146 := Tryd.underlying114
  a146 := Tryd.isAgg114
  z146 := Tryd.sizeOf114
  v146 := Tryd.zeroValue114
  g1 := by kernel_rfl }
open Go.RowKit Go.Lib in
/-- strings.Index: "Index returns the index of the first instance of substr in s, or -1 if substr is not present in s.": AT A substr OF ONE BYTE c: IT RETURNS 'Lib.indexByte s c'; the world is as it was. (LAID: no walk: one application.) -/
theorem Tryd.strings_Index_one (s : ByteArray) (c : UInt8) (w : World) :
    Calls Tryd.prog 31 #[.string s, .string ⟨#[c]⟩] w fun e w' => e = .returned (.int .i64 (Lib.indexByte s.data.toList c)) ∧ w' = w := Any.strings_Index_one Tryd.lays143 s c w
open Go.RowKit Go.Lib in
/-- strings.Index: "Index returns the index of the first instance of substr in s, or -1 if substr is not present in s.": IT RETURNS 'Lib.index s substr'; the world is as it was. (LAID: no walk: one application.) -/
theorem Tryd.strings_Index (s sub : ByteArray) (m : Int) (w : World) (hs : s.size < 4294967281) (hm : w.cell? ⟨0, 0, none⟩ = some (.int .i64 m)) :
    Calls Tryd.prog 31 #[.string s, .string sub] w fun e w' => e = .returned (.int .i64 (Lib.index s.data.toList sub.data.toList)) ∧ w' = w := Any.strings_Index Tryd.lays143 s sub m w hs hm
def Tryd.lays144_ren : Go.Shelf.Ren := ⟨fun | 144 => 22 | 143 => 31 | 219 => 48 | 217 => 50 | 225 => 61 | 224 => 62 | 267 => 63 | 266 => 64 | 314 => 78 | n => n, fun | 9 => 9 | 4 => 4 | 3 => 3 | 5 => 5 | 46 => 92 | 146 => 114 | 51 => 113 | n => n, fun | 1 => 0 | n => n⟩
theorem Tryd.lays144 : Go.Proofs.Lays.n144 Tryd.prog Tryd.lays144_ren := {
  mixed := by kernel_rfl
  f143 := Tryd.func31.trans (congrArg some (by kernel_rfl))
  f144 := Tryd.func22.trans (congrArg some (by kernel_rfl))
  f217 := Tryd.func50.trans (congrArg some (by kernel_rfl))
  f219 := Tryd.func48.trans (congrArg some (by kernel_rfl))
  f224 := Tryd.func62.trans (congrArg some (by kernel_rfl))
  f225 := Tryd.func61.trans (congrArg some (by kernel_rfl))
  f266 := Tryd.func64.trans (congrArg some (by kernel_rfl))
  f267 := Tryd.func63.trans (congrArg some (by kernel_rfl))
  f314 := Tryd.func78.trans (congrArg some (by kernel_rfl))
  t3 := Tryd.underlying3
  a3 := Tryd.isAgg3
  z3 := Tryd.sizeOf3
  v3 := Tryd.zeroValue3
  t4 := Tryd.underlying4
  a4 := Tryd.isAgg4
  z4 := Tryd.sizeOf4
  v4 := Tryd.zeroValue4
  t5 := Tryd.underlying5
  a5 := Tryd.isAgg5
  z5 := Tryd.sizeOf5
  v5 := Tryd.zeroValue5
  t9 := Tryd.underlying9
  a9 := Tryd.isAgg9
  z9 := Tryd.sizeOf9
  v9 := Tryd.zeroValue9
  t46 := Tryd.underlying92
  a46 := Tryd.isAgg92
  z46 := Tryd.sizeOf92
  v46 := Tryd.zeroValue92
  t51 := Tryd.underlying113
  a51 := Tryd.isAgg113
  z51 := Tryd.sizeOf113
  v51 := Tryd.zeroValue113
  t146 := Tryd.underlying114
  a146 := Tryd.isAgg114
  z146 := Tryd.sizeOf114
  v146 := Tryd.zeroValue114
  g1 := by kernel_rfl }
open Go.RowKit Go.Lib in
/-- strings.Contains: "Contains reports whether substr is within s.": AT A substr OF ONE BYTE c: IT RETURNS 'decide (0 ≤ Lib.indexByte s c)'; the world is as it was. (LAID: no walk: one application.) -/
theorem Tryd.strings_Contains_one (s : ByteArray) (c : UInt8) (w : World) :
    Calls Tryd.prog 22 #[.string s, .string ⟨#[c]⟩] w fun e w' => e = .returned (.bool (decide (0 ≤ Lib.indexByte s.data.toList c))) ∧ w' = w := Any.strings_Contains_one Tryd.lays144 s c w
open Go.RowKit Go.Lib in
/-- strings.Contains: "Contains reports whether substr is within s.": IT RETURNS 'Lib.contains s substr'; the world is as it was. (LAID: no walk: one application.) -/
theorem Tryd.strings_Contains (s sub : ByteArray) (m : Int) (w : World) (hs : s.size < 4294967281) (hm : w.cell? ⟨0, 0, none⟩ = some (.int .i64 m)) :
    Calls Tryd.prog 22 #[.string s, .string sub] w fun e w' => e = .returned (.bool (Lib.contains s.data.toList sub.data.toList)) ∧ w' = w := Any.strings_Contains Tryd.lays144 s sub m w hs hm
def Tryd.laysM219_ren : Go.Shelf.Ren := ⟨fun | 219 => 48 | 217 => 50 | 225 => 61 | 224 => 62 | 267 => 63 | 266 => 64 | 314 => 78 | n => n, fun | 9 => 9 | 3 => 3 | 4 => 4 | 5 => 5 | 46 => 92 | 146 => 114 | 51 => 113 | n => n, fun | 1 => 0 | n => n⟩
theorem Tryd.laysM219 : Go.Proofs.LaysM.n219 Tryd.prog Tryd.laysM219_ren := {
  mixed := by kernel_rfl
  f217 := Tryd.func50.trans (congrArg some (by kernel_rfl))
  f219 := Tryd.func48.trans (congrArg some (by kernel_rfl))
  f224 := Tryd.func62.trans (congrArg some (by kernel_rfl))
  f225 := Tryd.func61.trans (congrArg some (by kernel_rfl))
  f266 := Tryd.func64.trans (congrArg some (by kernel_rfl))
  f267 := Tryd.func63.trans (congrArg some (by kernel_rfl))
  f314 := Tryd.func78.trans (congrArg some (by kernel_rfl))
  t3 := Tryd.underlying3
  a3 := Tryd.isAgg3
  z3 := Tryd.sizeOf3
  v3 := Tryd.zeroValue3
  t4 := Tryd.underlying4
  a4 := Tryd.isAgg4
  z4 := Tryd.sizeOf4
  v4 := Tryd.zeroValue4
  t5 := Tryd.underlying5
  a5 := Tryd.isAgg5
  z5 := Tryd.sizeOf5
  v5 := Tryd.zeroValue5
  t9 := Tryd.underlying9
  a9 := Tryd.isAgg9
  z9 := Tryd.sizeOf9
  v9 := Tryd.zeroValue9
  t46 := Tryd.underlying92
  a46 := Tryd.isAgg92
  z46 := Tryd.sizeOf92
  v46 := Tryd.zeroValue92
  t51 := Tryd.underlying113
  a51 := Tryd.isAgg113
  z51 := Tryd.sizeOf113
  v51 := Tryd.zeroValue113
  t146 := Tryd.underlying114
  a146 := Tryd.isAgg114
  z146 := Tryd.sizeOf114
  v146 := Tryd.zeroValue114
  g1 := by kernel_rfl
  i3 := by kernel_rfl
  i4 := by kernel_rfl
  i5 := by kernel_rfl
  i9 := by kernel_rfl
  i46 := by kernel_rfl
  i51 := by kernel_rfl
  i146 := by kernel_rfl
  m1 := by kernel_rfl
  s1_3 := fun w h => Go.Proofs.cell_of_shapedOpen_int (zero := #[.int .i64 0]) (t := 3) h (of_decide_eq_true (by kernel_rfl)) (by kernel_rfl) rfl (by kernel_rfl) (by kernel_rfl) Tryd.underlying3 }
open Go.RowKit Go.Lib in
theorem Tryd.stringslite_Index_shaped (s sub : ByteArray) (w : World) (h : w.ShapedOpen Tryd.prog) (hs : s.size < 4294967281) :
    Calls Tryd.prog 48 #[.string s, .string sub] w fun e w' => e = .returned (.int .i64 (Lib.index s.data.toList sub.data.toList)) ∧ w' = w := Any.stringslite_Index_shaped Tryd.laysM219 s sub w h hs
def Tryd.laysM143_ren : Go.Shelf.Ren := ⟨fun | 143 => 31 | 219 => 48 | 217 => 50 | 225 => 61 | 224 => 62 | 267 => 63 | 266 => 64 | 314 => 78 | n => n, fun | 9 => 9 | 3 => 3 | 4 => 4 | 5 => 5 | 46 => 92 | 146 => 114 | 51 => 113 | n => n, fun | 1 => 0 | n => n⟩
theorem Tryd.laysM143 : Go.Proofs.LaysM.n143 Tryd.prog Tryd.laysM143_ren := {
  mixed := by kernel_rfl
  f143 := Tryd.func31.trans (congrArg some (by kernel_rfl))
  f217 := Tryd.func50.trans (congrArg some (by kernel_rfl))
  f219 := Tryd.func48.trans (congrArg some (by kernel_rfl))
  f224 := Tryd.func62.trans (congrArg some (by kernel_rfl))
  f225 := Tryd.func61.trans (congrArg some (by kernel_rfl))
  f266 := Tryd.func64.trans (congrArg some (by kernel_rfl))
  f267 := Tryd.func63.trans (congrArg some (by kernel_rfl))
  f314 := Tryd.func78.trans (congrArg some (by kernel_rfl))
  t3 := Tryd.underlying3
  a3 := Tryd.isAgg3
  z3 := Tryd.sizeOf3
  v3 := Tryd.zeroValue3
  t4 := Tryd.underlying4
  a4 := Tryd.isAgg4
  z4 := Tryd.sizeOf4
  v4 := Tryd.zeroValue4
  t5 := Tryd.underlying5
  a5 := Tryd.isAgg5
  z5 := Tryd.sizeOf5
  v5 := Tryd.zeroValue5
  t9 := Tryd.underlying9
  a9 := Tryd.isAgg9
  z9 := Tryd.sizeOf9
  v9 := Tryd.zeroValue9
  t46 := Tryd.underlying92
  a46 := Tryd.isAgg92
  z46 := Tryd.sizeOf92
  v46 := Tryd.zeroValue92
  t51 := Tryd.underlying113
  a51 := Tryd.isAgg113
  z51 := Tryd.sizeOf113
  v51 := Tryd.zeroValue113
  t146 := Tryd.underlying114
  a146 := Tryd.isAgg114
  z146 := Tryd.sizeOf114
  v146 := Tryd.zeroValue114
  g1 := by kernel_rfl
  i3 := by kernel_rfl
  i4 := by kernel_rfl
  i5 := by kernel_rfl
  i9 := by kernel_rfl
  i46 := by kernel_rfl
  i51 := by kernel_rfl
  i146 := by kernel_rfl
  m1 := by kernel_rfl
  s1_3 := fun w h => Go.Proofs.cell_of_shapedOpen_int (zero := #[.int .i64 0]) (t := 3) h (of_decide_eq_true (by kernel_rfl)) (by kernel_rfl) rfl (by kernel_rfl) (by kernel_rfl) Tryd.underlying3 }
open Go.RowKit Go.Lib in
theorem Tryd.strings_Index_shaped (s sub : ByteArray) (w : World) (h : w.ShapedOpen Tryd.prog) (hs : s.size < 4294967281) :
    Calls Tryd.prog 31 #[.string s, .string sub] w fun e w' => e = .returned (.int .i64 (Lib.index s.data.toList sub.data.toList)) ∧ w' = w := Any.strings_Index_shaped Tryd.laysM143 s sub w h hs
def Tryd.laysM144_ren : Go.Shelf.Ren := ⟨fun | 144 => 22 | 143 => 31 | 219 => 48 | 217 => 50 | 225 => 61 | 224 => 62 | 267 => 63 | 266 => 64 | 314 => 78 | n => n, fun | 9 => 9 | 4 => 4 | 3 => 3 | 5 => 5 | 46 => 92 | 146 => 114 | 51 => 113 | n => n, fun | 1 => 0 | n => n⟩
theorem Tryd.laysM144 : Go.Proofs.LaysM.n144 Tryd.prog Tryd.laysM144_ren := {
  mixed := by kernel_rfl
  f143 := Tryd.func31.trans (congrArg some (by kernel_rfl))
  f144 := Tryd.func22.trans (congrArg some (by kernel_rfl))
  f217 := Tryd.func50.trans (congrArg some (by kernel_rfl))
  f219 := Tryd.func48.trans (congrArg some (by kernel_rfl))
  f224 := Tryd.func62.trans (congrArg some (by kernel_rfl))
  f225 := Tryd.func61.trans (congrArg some (by kernel_rfl))
  f266 := Tryd.func64.trans (congrArg some (by kernel_rfl))
  f267 := Tryd.func63.trans (congrArg some (by kernel_rfl))
  f314 := Tryd.func78.trans (congrArg some (by kernel_rfl))
  t3 := Tryd.underlying3
  a3 := Tryd.isAgg3
  z3 := Tryd.sizeOf3
  v3 := Tryd.zeroValue3
  t4 := Tryd.underlying4
  a4 := Tryd.isAgg4
  z4 := Tryd.sizeOf4
  v4 := Tryd.zeroValue4
  t5 := Tryd.underlying5
  a5 := Tryd.isAgg5
  z5 := Tryd.sizeOf5
  v5 := Tryd.zeroValue5
  t9 := Tryd.underlying9
  a9 := Tryd.isAgg9
  z9 := Tryd.sizeOf9
  v9 := Tryd.zeroValue9
  t46 := Tryd.underlying92
  a46 := Tryd.isAgg92
  z46 := Tryd.sizeOf92
  v46 := Tryd.zeroValue92
  t51 := Tryd.underlying113
  a51 := Tryd.isAgg113
  z51 := Tryd.sizeOf113
  v51 := Tryd.zeroValue113
  t146 := Tryd.underlying114
  a146 := Tryd.isAgg114
  z146 := Tryd.sizeOf114
  v146 := Tryd.zeroValue114
  g1 := by kernel_rfl
  i3 := by kernel_rfl
  i4 := by kernel_rfl
  i5 := by kernel_rfl
  i9 := by kernel_rfl
  i46 := by kernel_rfl
  i51 := by kernel_rfl
  i146 := by kernel_rfl
  m1 := by kernel_rfl
  s1_3 := fun w h => Go.Proofs.cell_of_shapedOpen_int (zero := #[.int .i64 0]) (t := 3) h (of_decide_eq_true (by kernel_rfl)) (by kernel_rfl) rfl (by kernel_rfl) (by kernel_rfl) Tryd.underlying3 }
open Go.RowKit Go.Lib in
theorem Tryd.strings_Contains_shaped (s sub : ByteArray) (w : World) (h : w.ShapedOpen Tryd.prog) (hs : s.size < 4294967281) :
    Calls Tryd.prog 22 #[.string s, .string sub] w fun e w' => e = .returned (.bool (Lib.contains s.data.toList sub.data.toList)) ∧ w' = w := Any.strings_Contains_shaped Tryd.laysM144 s sub w h hs
def Tryd.lays206_ren : Go.Shelf.Ren := ⟨fun | 206 => 49 | n => n, fun | 9 => 9 | 4 => 4 | 3 => 3 | n => n, fun | n => n⟩
theorem Tryd.lays206 : Go.Proofs.Lays.n206 Tryd.prog Tryd.lays206_ren := {
  mixed := by kernel_rfl
  f206 := Tryd.func49.trans (congrArg some (by kernel_rfl))
  t3 := Tryd.underlying3
  a3 := Tryd.isAgg3
  z3 := Tryd.sizeOf3
  v3 := Tryd.zeroValue3
  t4 := Tryd.underlying4
  a4 := Tryd.isAgg4
  z4 := Tryd.sizeOf4
  v4 := Tryd.zeroValue4
  t9 := Tryd.underlying9
  a9 := Tryd.isAgg9
  z9 := Tryd.sizeOf9
  v9 := Tryd.zeroValue9 }
open Go.RowKit Go.Lib in
/-- internal/stringslite.HasPrefix (what strings.HasPrefix calls). (LAID: no walk: one application.) -/
theorem Tryd.stringslite_HasPrefix (s p : ByteArray) (w : World) :
    Calls Tryd.prog 49 #[.string s, .string p] w fun e w' => e = .returned (.bool (Lib.hasPrefix s.data.toList p.data.toList)) ∧ w' = w := Any.stringslite_HasPrefix Tryd.lays206 s p w
def Tryd.lays99_ren : Go.Shelf.Ren := ⟨fun | 99 => 32 | 206 => 49 | n => n, fun | 9 => 9 | 4 => 4 | 3 => 3 | n => n, fun | n => n⟩
theorem Tryd.lays99 : Go.Proofs.Lays.n99 Tryd.prog Tryd.lays99_ren := {
  mixed := by kernel_rfl
  f99 := Tryd.func32.trans (congrArg some (by kernel_rfl))
  f206 := Tryd.func49.trans (congrArg some (by kernel_rfl))
  t3 := Tryd.underlying3
  a3 := Tryd.isAgg3
  z3 := Tryd.sizeOf3
  v3 := Tryd.zeroValue3
  t4 := Tryd.underlying4
  a4 := Tryd.isAgg4
  z4 := Tryd.sizeOf4
  v4 := Tryd.zeroValue4
  t9 := Tryd.underlying9
  a9 := Tryd.isAgg9
  z9 := Tryd.sizeOf9
  v9 := Tryd.zeroValue9 }
open Go.RowKit Go.Lib in
/-- strings.HasPrefix: "HasPrefix reports whether the string s begins with prefix.": IT RETURNS 'Lib.hasPrefix s prefix'; the world is as it was. (LAID: no walk: one application.) -/
theorem Tryd.strings_HasPrefix (s p : ByteArray) (w : World) :
    Calls Tryd.prog 32 #[.string s, .string p] w fun e w' => e = .returned (.bool (Lib.hasPrefix s.data.toList p.data.toList)) ∧ w' = w := Any.strings_HasPrefix Tryd.lays99 s p w
def Tryd.lays152_ren : Go.Shelf.Ren := ⟨fun | 152 => 89 | 137 => 36 | 119 => 102 | 224 => 62 | 225 => 61 | 217 => 50 | 266 => 64 | n => n, fun | 9 => 9 | 21 => 21 | 3 => 3 | 4 => 4 | 5 => 5 | 0 => 0 | 46 => 92 | n => n, fun | n => n⟩
theorem Tryd.lays152 : Go.Proofs.Lays.n152 Tryd.prog Tryd.lays152_ren := {
  mixed := by kernel_rfl
  f119 := Tryd.func102.trans (congrArg some (by kernel_rfl))
  f137 := Tryd.func36.trans (congrArg some (by kernel_rfl))
  f152 := Tryd.func89.trans (congrArg some (by kernel_rfl))
  f217 := Tryd.func50.trans (congrArg some (by kernel_rfl))
  f224 := Tryd.func62.trans (congrArg some (by kernel_rfl))
  f225 := Tryd.func61.trans (congrArg some (by kernel_rfl))
  f266 := Tryd.func64.trans (congrArg some (by kernel_rfl))
  t0 := Tryd.underlying0
  a0 := Tryd.isAgg0
  z0 := Tryd.sizeOf0
  v0 := Tryd.zeroValue0
  t3 := Tryd.underlying3
  a3 := Tryd.isAgg3
  z3 := Tryd.sizeOf3
  v3 := Tryd.zeroValue3
  t4 := Tryd.underlying4
  a4 := Tryd.isAgg4
  z4 := Tryd.sizeOf4
  v4 := Tryd.zeroValue4
  t5 := Tryd.underlying5
  a5 := Tryd.isAgg5
  z5 := Tryd.sizeOf5
  v5 := Tryd.zeroValue5
  t9 := Tryd.underlying9
  a9 := Tryd.isAgg9
  z9 := Tryd.sizeOf9
  v9 := Tryd.zeroValue9
  t21 := Tryd.underlying21
  a21 := Tryd.isAgg21
  z21 := Tryd.sizeOf21
  v21 := Tryd.zeroValue21
  t46 := Tryd.underlying92
  a46 := Tryd.isAgg92
  z46 := Tryd.sizeOf92
  v46 := Tryd.zeroValue92 }
open Go.RowKit Go.Lib in
theorem Tryd.strings_IndexRune_ascii (s : ByteArray) (r : Int) (w : World) (h0 : 0 ≤ r) (h1 : r < 128) :
    Calls Tryd.prog 89 #[.string s, .int .i32 r] w fun e w' => e = .returned (.int .i64 (Lib.indexByte s.data.toList r.toNat.toUInt8)) ∧ w' = w := Any.strings_IndexRune_ascii Tryd.lays152 s r w h0 h1
def Tryd.lays226_ren : Go.Shelf.Ren := ⟨fun | 226 => 90 | n => n, fun | 3 => 3 | 4 => 4 | n => n, fun | n => n⟩
theorem Tryd.lays226 : Go.Proofs.Lays.n226 Tryd.prog Tryd.lays226_ren := {
  mixed := by kernel_rfl
  f226 := Tryd.func90.trans (congrArg some (by kernel_rfl))
  t3 := Tryd.underlying3
  a3 := Tryd.isAgg3
  z3 := Tryd.sizeOf3
  v3 := Tryd.zeroValue3
  t4 := Tryd.underlying4
  a4 := Tryd.isAgg4
  z4 := Tryd.sizeOf4
  v4 := Tryd.zeroValue4 }
open Go.RowKit Go.Lib in
theorem Tryd.strings_shouldUseASCIISet (n : Int) (w : World) :
    Calls Tryd.prog 90 #[.int .i64 n] w fun e w' => e = .returned (.bool (decide (8 < n))) ∧ w' = w := Any.strings_shouldUseASCIISet Tryd.lays226 n w
def Tryd.lays153_ren : Go.Shelf.Ren := ⟨fun | 153 => 68 | 152 => 89 | 226 => 90 | 227 => 91 | 228 => 92 | 137 => 36 | 119 => 102 | 224 => 62 | 225 => 61 | 217 => 50 | 266 => 64 | n => n, fun | 9 => 9 | 3 => 3 | 4 => 4 | 5 => 5 | 21 => 21 | 117 => 130 | 116 => 129 | 0 => 0 | 46 => 92 | 124 => 141 | n => n, fun | n => n⟩
theorem Tryd.lays153 : Go.Proofs.Lays.n153 Tryd.prog Tryd.lays153_ren := {
  mixed := by kernel_rfl
  f119 := Tryd.func102.trans (congrArg some (by kernel_rfl))
  f137 := Tryd.func36.trans (congrArg some (by kernel_rfl))
  f152 := Tryd.func89.trans (congrArg some (by kernel_rfl))
  f153 := Tryd.func68.trans (congrArg some (by kernel_rfl))
  f217 := Tryd.func50.trans (congrArg some (by kernel_rfl))
  f224 := Tryd.func62.trans (congrArg some (by kernel_rfl))
  f225 := Tryd.func61.trans (congrArg some (by kernel_rfl))
  f226 := Tryd.func90.trans (congrArg some (by kernel_rfl))
  f227 := Tryd.func91.trans (congrArg some (by kernel_rfl))
  f228 := Tryd.func92.trans (congrArg some (by kernel_rfl))
  f266 := Tryd.func64.trans (congrArg some (by kernel_rfl))
  t0 := Tryd.underlying0
  a0 := Tryd.isAgg0
  z0 := Tryd.sizeOf0
  v0 := Tryd.zeroValue0
  t3 := Tryd.underlying3
  a3 := Tryd.isAgg3
  z3 := Tryd.sizeOf3
  v3 := Tryd.zeroValue3
  t4 := Tryd.underlying4
  a4 := Tryd.isAgg4
  z4 := Tryd.sizeOf4
  v4 := Tryd.zeroValue4
  t5 := Tryd.underlying5
  a5 := Tryd.isAgg5
  z5 := Tryd.sizeOf5
  v5 := Tryd.zeroValue5
  t9 := Tryd.underlying9
  a9 := Tryd.isAgg9
  z9 := Tryd.sizeOf9
  v9 := Tryd.zeroValue9
  t21 := Tryd.underlying21
  a21 := Tryd.isAgg21
  z21 := Tryd.sizeOf21
  v21 := Tryd.zeroValue21
  t46 := Tryd.underlying92
  a46 := Tryd.isAgg92
  z46 := Tryd.sizeOf92
  v46 := Tryd.zeroValue92
  t116 := Tryd.underlying129
  a116 := Tryd.isAgg129
  z116 := Tryd.sizeOf129
  t117 := Tryd.underlying130
  a117 := Tryd.isAgg130
  z117 := Tryd.sizeOf130
  v117 := Tryd.zeroValue130
  t124 := Tryd.underlying141
  a124 := Tryd.isAgg141
  z124 := Tryd.sizeOf141
  v124 := Tryd.zeroValue141 }
open Go.RowKit Go.Lib in
/-- chars is empty. (LAID: no walk: one application.) -/
theorem Tryd.strings_IndexAny_none (s chars : ByteArray) (w : World) (h0 : chars.size = 0) :
    Calls Tryd.prog 68 #[.string s, .string chars] w fun e w' => e = .returned (.int .i64 (Lib.indexAny s.data.toList chars.data.toList)) ∧ w' = w := Any.strings_IndexAny_none Tryd.lays153 s chars w h0
open Go.RowKit Go.Lib in
/-- chars is one ASCII byte. (LAID: no walk: one application.) -/
theorem Tryd.strings_IndexAny_one (s chars : ByteArray) (w : World) (h1 : chars.size = 1) (hascii : ∀ (j : Nat) b, chars.data.toList[j]? = some b → b.toNat < 128) :
    Calls Tryd.prog 68 #[.string s, .string chars] w fun e w' => e = .returned (.int .i64 (Lib.indexAny s.data.toList chars.data.toList)) ∧ w' = w := Any.strings_IndexAny_one Tryd.lays153 s chars w h1 hascii
open Go.RowKit Go.Lib in
/-- s of at most 8 bytes; chars of two or more: 'for i, c := range s { if IndexRune(chars, c) >= 0 { return i } }'. One block more: the model's iterator over s. (LAID: no walk: one application.) -/
theorem Tryd.strings_IndexAny_short (s chars : ByteArray) (w : World) (h2 : 2 ≤ chars.size) (h8 : s.size ≤ 8) (hascii : ∀ (j : Nat) b, s.data.toList[j]? = some b → b.toNat < 128) :
    Calls Tryd.prog 68 #[.string s, .string chars] w fun e w' => e = .returned (.int .i64 (Lib.indexAny s.data.toList chars.data.toList)) ∧ ∃ pos, w' = w.iter s pos := Any.strings_IndexAny_short Tryd.lays153 s chars w h2 h8 hascii
def Tryd.lays227_ren : Go.Shelf.Ren := ⟨fun | 227 => 91 | n => n, fun | 9 => 9 | 116 => 129 | 4 => 4 | 0 => 0 | 3 => 3 | 5 => 5 | n => n, fun | n => n⟩
theorem Tryd.lays227 : Go.Proofs.Lays.n227 Tryd.prog Tryd.lays227_ren := {
  mixed := by kernel_rfl
  f227 := Tryd.func91.trans (congrArg some (by kernel_rfl))
  t0 := Tryd.underlying0
  a0 := Tryd.isAgg0
  z0 := Tryd.sizeOf0
  v0 := Tryd.zeroValue0
  t3 := Tryd.underlying3
  a3 := Tryd.isAgg3
  z3 := Tryd.sizeOf3
  v3 := Tryd.zeroValue3
  t4 := Tryd.underlying4
  a4 := Tryd.isAgg4
  z4 := Tryd.sizeOf4
  v4 := Tryd.zeroValue4
  t5 := Tryd.underlying5
  a5 := Tryd.isAgg5
  z5 := Tryd.sizeOf5
  v5 := Tryd.zeroValue5
  t9 := Tryd.underlying9
  a9 := Tryd.isAgg9
  z9 := Tryd.sizeOf9
  v9 := Tryd.zeroValue9
  t116 := Tryd.underlying129
  a116 := Tryd.isAgg129
  z116 := Tryd.sizeOf129 }
open Go.RowKit Go.Lib in
theorem Tryd.strings_makeASCIISet (hv116 : ∀ w, (zeroValue 129).run Tryd.prog w = .ok (.agg (Array.replicate 256 (.bool false))) w) (chars : ByteArray) (w : World) (hs : chars.size < 4294967281) (hascii : ∀ (j : Nat) b, chars.data.toList[j]? = some b → b.toNat < 128) :
    Calls Tryd.prog 91 #[.string chars] w fun e w' => e = .returned (.tuple #[.agg (Lib.setCells chars.data.toList), .bool true]) ∧ w' = w.alloc (.cells (Lib.setCells chars.data.toList) 129) := Any.strings_makeASCIISet Tryd.lays227 hv116 (by kernel_rfl) chars w hs hascii
def Tryd.lays228_ren : Go.Shelf.Ren := ⟨fun | 228 => 92 | n => n, fun | 124 => 141 | 5 => 5 | 4 => 4 | 0 => 0 | 116 => 129 | n => n, fun | n => n⟩
theorem Tryd.lays228 : Go.Proofs.Lays.n228 Tryd.prog Tryd.lays228_ren := {
  mixed := by kernel_rfl
  f228 := Tryd.func92.trans (congrArg some (by kernel_rfl))
  t0 := Tryd.underlying0
  a0 := Tryd.isAgg0
  z0 := Tryd.sizeOf0
  v0 := Tryd.zeroValue0
  t4 := Tryd.underlying4
  a4 := Tryd.isAgg4
  z4 := Tryd.sizeOf4
  v4 := Tryd.zeroValue4
  t5 := Tryd.underlying5
  a5 := Tryd.isAgg5
  z5 := Tryd.sizeOf5
  v5 := Tryd.zeroValue5
  t116 := Tryd.underlying129
  a116 := Tryd.isAgg129
  z116 := Tryd.sizeOf129
  t124 := Tryd.underlying141
  a124 := Tryd.isAgg141
  z124 := Tryd.sizeOf141
  v124 := Tryd.zeroValue141 }
open Go.RowKit Go.Lib in
/-- '(as *asciiSet) contains(c)': 'as[c]': the set lies at block b, whole. (LAID: no walk: one application.) -/
theorem Tryd.asciiSet_contains (b : Nat) (x : UInt8) (v : Bool) (w : World) (hc : w.cell? ⟨b, x.toNat, none⟩ = some (.bool v)) :
    Calls Tryd.prog 92 #[.pointer (some ⟨b, 0, none⟩), .int .u8 x.toNat] w fun e w' => e = .returned (.bool v) ∧ w' = w := Any.asciiSet_contains Tryd.lays228 b x v w hc
open Go.RowKit Go.Lib in
theorem Tryd.strings_IndexAny_long (hv116 : ∀ w, (zeroValue 129).run Tryd.prog w = .ok (.agg (Array.replicate 256 (.bool false))) w) (s chars : ByteArray) (w : World) (h2 : 2 ≤ chars.size) (h8 : 8 < s.size) (hs : s.size < 4294967281) (hcs : chars.size < 4294967281) (hascii : ∀ (j : Nat) b, chars.data.toList[j]? = some b → b.toNat < 128) :
    Calls Tryd.prog 68 #[.string s, .string chars] w fun e w' => e = .returned (.int .i64 (Lib.indexAny s.data.toList chars.data.toList)) ∧ w' = ((w.alloc (.cells (Lib.setCells chars.data.toList) 129)).alloc (.cells (Lib.setCells chars.data.toList) 129)) := Any.strings_IndexAny_long Tryd.lays153 hv116 (by kernel_rfl) s chars w h2 h8 hs hcs hascii
open Go.RowKit Go.Lib in
/-- strings.IndexAny ON ASCII BYTES: the four roads under one statement. (LAID: no walk: one application.) -/
theorem Tryd.strings_IndexAny (hv116 : ∀ w, (zeroValue 129).run Tryd.prog w = .ok (.agg (Array.replicate 256 (.bool false))) w) (s chars : ByteArray) (w : World) (hs : s.size < 4294967281) (hcs : chars.size < 4294967281) (has : ∀ (j : Nat) b, s.data.toList[j]? = some b → b.toNat < 128) (hac : ∀ (j : Nat) b, chars.data.toList[j]? = some b → b.toNat < 128) :
    Calls Tryd.prog 68 #[.string s, .string chars] w fun e w' => e = .returned (.int .i64 (Lib.indexAny s.data.toList chars.data.toList)) ∧ Below w.heap.size w w' := Any.strings_IndexAny Tryd.lays153 hv116 (by kernel_rfl) s chars w hs hcs has hac
def Tryd.lays150_ren : Go.Shelf.Ren := ⟨fun | 150 => 55 | 153 => 68 | 152 => 89 | 226 => 90 | 227 => 91 | 228 => 92 | 137 => 36 | 119 => 102 | 224 => 62 | 225 => 61 | 217 => 50 | 266 => 64 | n => n, fun | 9 => 9 | 4 => 4 | 3 => 3 | 5 => 5 | 21 => 21 | 117 => 130 | 116 => 129 | 0 => 0 | 46 => 92 | 124 => 141 | n => n, fun | n => n⟩
theorem Tryd.lays150 : Go.Proofs.Lays.n150 Tryd.prog Tryd.lays150_ren := {
  mixed := by kernel_rfl
  f119 := Tryd.func102.trans (congrArg some (by kernel_rfl))
  f137 := Tryd.func36.trans (congrArg some (by kernel_rfl))
  f150 := Tryd.func55.trans (congrArg some (by kernel_rfl))
  f152 := Tryd.func89.trans (congrArg some (by kernel_rfl))
  f153 := Tryd.func68.trans (congrArg some (by kernel_rfl))
  f217 := Tryd.func50.trans (congrArg some (by kernel_rfl))
  f224 := Tryd.func62.trans (congrArg some (by kernel_rfl))
  f225 := Tryd.func61.trans (congrArg some (by kernel_rfl))
  f226 := Tryd.func90.trans (congrArg some (by kernel_rfl))
  f227 := Tryd.func91.trans (congrArg some (by kernel_rfl))
  f228 := Tryd.func92.trans (congrArg some (by kernel_rfl))
  f266 := Tryd.func64.trans (congrArg some (by kernel_rfl))
  t0 := Tryd.underlying0
  a0 := Tryd.isAgg0
  z0 := Tryd.sizeOf0
  v0 := Tryd.zeroValue0
  t3 := Tryd.underlying3
  a3 := Tryd.isAgg3
  z3 := Tryd.sizeOf3
  v3 := Tryd.zeroValue3
  t4 := Tryd.underlying4
  a4 := Tryd.isAgg4
  z4 := Tryd.sizeOf4
  v4 := Tryd.zeroValue4
  t5 := Tryd.underlying5
  a5 := Tryd.isAgg5
  z5 := Tryd.sizeOf5
  v5 := Tryd.zeroValue5
  t9 := Tryd.underlying9
  a9 := Tryd.isAgg9
  z9 := Tryd.sizeOf9
  v9 := Tryd.zeroValue9
  t21 := Tryd.underlying21
  a21 := Tryd.isAgg21
  z21 := Tryd.sizeOf21
  v21 := Tryd.zeroValue21
  t46 := Tryd.underlying92
  a46 := Tryd.isAgg92
  z46 := Tryd.sizeOf92
  v46 := Tryd.zeroValue92
  t116 := Tryd.underlying129
  a116 := Tryd.isAgg129
  z116 := Tryd.sizeOf129
  t117 := Tryd.underlying130
  a117 := Tryd.isAgg130
  z117 := Tryd.sizeOf130
  v117 := Tryd.zeroValue130
  t124 := Tryd.underlying141
  a124 := Tryd.isAgg141
  z124 := Tryd.sizeOf141
  v124 := Tryd.zeroValue141 }
open Go.RowKit Go.Lib in
/-- strings.ContainsAny ON ASCII BYTES. (LAID: no walk: one application.) -/
theorem Tryd.strings_ContainsAny (hv116 : ∀ w, (zeroValue 129).run Tryd.prog w = .ok (.agg (Array.replicate 256 (.bool false))) w) (s chars : ByteArray) (w : World) (hs : s.size < 4294967281) (hcs : chars.size < 4294967281) (has : ∀ (j : Nat) b, s.data.toList[j]? = some b → b.toNat < 128) (hac : ∀ (j : Nat) b, chars.data.toList[j]? = some b → b.toNat < 128) :
    Calls Tryd.prog 55 #[.string s, .string chars] w fun e w' => e = .returned (.bool (Lib.containsAny s.data.toList chars.data.toList)) ∧ Below w.heap.size w w' := Any.strings_ContainsAny Tryd.lays150 hv116 (by kernel_rfl) s chars w hs hcs has hac
open Go.RowKit Go.Lib in
theorem Tryd.strings_IndexAny_laid (s chars : ByteArray) (w : World) (hs : s.size < 4294967281) (hcs : chars.size < 4294967281) (has : ∀ (j : Nat) b, s.data.toList[j]? = some b → b.toNat < 128) (hac : ∀ (j : Nat) b, chars.data.toList[j]? = some b → b.toNat < 128) :
    Calls Tryd.prog 68 #[.string s, .string chars] w fun e w' => e = .returned (.int .i64 (Lib.indexAny s.data.toList chars.data.toList)) ∧ Below w.heap.size w w' := Any.strings_IndexAny_laid Tryd.lays153 (by kernel_rfl) s chars w hs hcs has hac
open Go.RowKit Go.Lib in
theorem Tryd.strings_ContainsAny_laid (s chars : ByteArray) (w : World) (hs : s.size < 4294967281) (hcs : chars.size < 4294967281) (has : ∀ (j : Nat) b, s.data.toList[j]? = some b → b.toNat < 128) (hac : ∀ (j : Nat) b, chars.data.toList[j]? = some b → b.toNat < 128) :
    Calls Tryd.prog 55 #[.string s, .string chars] w fun e w' => e = .returned (.bool (Lib.containsAny s.data.toList chars.data.toList)) ∧ Below w.heap.size w w' := Any.strings_ContainsAny_laid Tryd.lays150 (by kernel_rfl) s chars w hs hcs has hac
end Go.Proofs

set_option linter.unusedVariables false
set_option linter.unusedSimpArgs false
set_option maxRecDepth 4000
namespace Go.AE
open Go.Proofs

theorem isPrefixOf_eq (a b : List UInt8) : (decide ((a.length : Int) ≥ (b.length : Int)) && (a.take b.length == b)) = b.isPrefixOf a := by
  rw [Bool.eq_iff_iff]
  simp only [Bool.and_eq_true, decide_eq_true_eq, beq_iff_eq, List.isPrefixOf_iff_prefix, List.prefix_iff_eq_take]
  constructor
  · rintro ⟨_, h⟩; exact h.symm
  · intro h; refine ⟨?_, h.symm⟩; have := congrArg List.length h; simp at this; omega

theorem en_3 : Enters Tryd.prog 3 := enters_of Tryd.func3 (by kernel_rfl) rfl
theorem en_4 : Enters Tryd.prog 4 := enters_of Tryd.func4 (by kernel_rfl) rfl
theorem en_5 : Enters Tryd.prog 5 := enters_of Tryd.func5 (by kernel_rfl) rfl
theorem en_6 : Enters Tryd.prog 6 := enters_of Tryd.func6 (by kernel_rfl) rfl
theorem en_7 : Enters Tryd.prog 7 := enters_of Tryd.func7 (by kernel_rfl) rfl
theorem en_8 : Enters Tryd.prog 8 := enters_of Tryd.func8 (by kernel_rfl) rfl
theorem en_9 : Enters Tryd.prog 9 := enters_of Tryd.func9 (by kernel_rfl) rfl
theorem en_10 : Enters Tryd.prog 10 := enters_of Tryd.func10 (by kernel_rfl) rfl
theorem en_11 : Enters Tryd.prog 11 := enters_of Tryd.func11 (by kernel_rfl) rfl
theorem en_12 : Enters Tryd.prog 12 := enters_of Tryd.func12 (by kernel_rfl) rfl
theorem en_13 : Enters Tryd.prog 13 := enters_of Tryd.func13 (by kernel_rfl) rfl
theorem en_14 : Enters Tryd.prog 14 := enters_of Tryd.func14 (by kernel_rfl) rfl
theorem en_15 : Enters Tryd.prog 15 := enters_of Tryd.func15 (by kernel_rfl) rfl
theorem en_16 : Enters Tryd.prog 16 := enters_of Tryd.func16 (by kernel_rfl) rfl
theorem en_17 : Enters Tryd.prog 17 := enters_of Tryd.func17 (by kernel_rfl) rfl
theorem en_18 : Enters Tryd.prog 18 := enters_of Tryd.func18 (by kernel_rfl) rfl
theorem en_19 : Enters Tryd.prog 19 := enters_of Tryd.func19 (by kernel_rfl) rfl
theorem en_20 : Enters Tryd.prog 20 := enters_of Tryd.func20 (by kernel_rfl) rfl
theorem en_21 : Enters Tryd.prog 21 := enters_of Tryd.func21 (by kernel_rfl) rfl
theorem en_22 : Enters Tryd.prog 22 := enters_of Tryd.func22 (by kernel_rfl) rfl
theorem en_23 : Enters Tryd.prog 23 := enters_of Tryd.func23 (by kernel_rfl) rfl
theorem en_24 : Enters Tryd.prog 24 := enters_of Tryd.func24 (by kernel_rfl) rfl
theorem en_25 : Enters Tryd.prog 25 := enters_of Tryd.func25 (by kernel_rfl) rfl
theorem en_26 : Enters Tryd.prog 26 := enters_of Tryd.func26 (by kernel_rfl) rfl
theorem en_27 : Enters Tryd.prog 27 := enters_of Tryd.func27 (by kernel_rfl) rfl
theorem en_28 : Enters Tryd.prog 28 := enters_of Tryd.func28 (by kernel_rfl) rfl
theorem en_29 : Enters Tryd.prog 29 := enters_of Tryd.func29 (by kernel_rfl) rfl
theorem en_30 : Enters Tryd.prog 30 := enters_of Tryd.func30 (by kernel_rfl) rfl
theorem en_31 : Enters Tryd.prog 31 := enters_of Tryd.func31 (by kernel_rfl) rfl
theorem en_32 : Enters Tryd.prog 32 := enters_of Tryd.func32 (by kernel_rfl) rfl
theorem en_33 : Enters Tryd.prog 33 := enters_of Tryd.func33 (by kernel_rfl) rfl
theorem en_34 : Enters Tryd.prog 34 := enters_of Tryd.func34 (by kernel_rfl) rfl
theorem en_35 : Enters Tryd.prog 35 := enters_of Tryd.func35 (by kernel_rfl) rfl
theorem en_36 : Enters Tryd.prog 36 := enters_of Tryd.func36 (by kernel_rfl) rfl
theorem en_37 : Enters Tryd.prog 37 := enters_of Tryd.func37 (by kernel_rfl) rfl
theorem en_38 : Enters Tryd.prog 38 := enters_of Tryd.func38 (by kernel_rfl) rfl
theorem en_39 : Enters Tryd.prog 39 := enters_of Tryd.func39 (by kernel_rfl) rfl
theorem en_40 : Enters Tryd.prog 40 := enters_of Tryd.func40 (by kernel_rfl) rfl
theorem en_41 : Enters Tryd.prog 41 := enters_of Tryd.func41 (by kernel_rfl) rfl
theorem en_42 : Enters Tryd.prog 42 := enters_of Tryd.func42 (by kernel_rfl) rfl
theorem en_43 : Enters Tryd.prog 43 := enters_of Tryd.func43 (by kernel_rfl) rfl
theorem en_44 : Enters Tryd.prog 44 := enters_of Tryd.func44 (by kernel_rfl) rfl
theorem en_45 : Enters Tryd.prog 45 := enters_of Tryd.func45 (by kernel_rfl) rfl
theorem en_46 : Enters Tryd.prog 46 := enters_of Tryd.func46 (by kernel_rfl) rfl
theorem en_47 : Enters Tryd.prog 47 := enters_of Tryd.func47 (by kernel_rfl) rfl
theorem en_48 : Enters Tryd.prog 48 := enters_of Tryd.func48 (by kernel_rfl) rfl
theorem en_49 : Enters Tryd.prog 49 := enters_of Tryd.func49 (by kernel_rfl) rfl
theorem en_50 : Enters Tryd.prog 50 := enters_of Tryd.func50 (by kernel_rfl) rfl
theorem en_51 : Enters Tryd.prog 51 := enters_of Tryd.func51 (by kernel_rfl) rfl
theorem en_52 : Enters Tryd.prog 52 := enters_of Tryd.func52 (by kernel_rfl) rfl
theorem en_53 : Enters Tryd.prog 53 := enters_of Tryd.func53 (by kernel_rfl) rfl
theorem en_54 : Enters Tryd.prog 54 := enters_of Tryd.func54 (by kernel_rfl) rfl
theorem en_55 : Enters Tryd.prog 55 := enters_of Tryd.func55 (by kernel_rfl) rfl
theorem en_56 : Enters Tryd.prog 56 := enters_of Tryd.func56 (by kernel_rfl) rfl
theorem en_57 : Enters Tryd.prog 57 := enters_of Tryd.func57 (by kernel_rfl) rfl
theorem en_58 : Enters Tryd.prog 58 := enters_of Tryd.func58 (by kernel_rfl) rfl
theorem en_59 : Enters Tryd.prog 59 := enters_of Tryd.func59 (by kernel_rfl) rfl
theorem en_60 : Enters Tryd.prog 60 := enters_of Tryd.func60 (by kernel_rfl) rfl
theorem en_62 : Enters Tryd.prog 62 := enters_of Tryd.func62 (by kernel_rfl) rfl
theorem en_63 : Enters Tryd.prog 63 := enters_of Tryd.func63 (by kernel_rfl) rfl
theorem en_65 : Enters Tryd.prog 65 := enters_of Tryd.func65 (by kernel_rfl) rfl
theorem en_66 : Enters Tryd.prog 66 := enters_of Tryd.func66 (by kernel_rfl) rfl
theorem en_67 : Enters Tryd.prog 67 := enters_of Tryd.func67 (by kernel_rfl) rfl
theorem en_68 : Enters Tryd.prog 68 := enters_of Tryd.func68 (by kernel_rfl) rfl
theorem en_69 : Enters Tryd.prog 69 := enters_of Tryd.func69 (by kernel_rfl) rfl
theorem en_70 : Enters Tryd.prog 70 := enters_of Tryd.func70 (by kernel_rfl) rfl
theorem en_71 : Enters Tryd.prog 71 := enters_of Tryd.func71 (by kernel_rfl) rfl
theorem en_72 : Enters Tryd.prog 72 := enters_of Tryd.func72 (by kernel_rfl) rfl
theorem en_73 : Enters Tryd.prog 73 := enters_of Tryd.func73 (by kernel_rfl) rfl
theorem en_74 : Enters Tryd.prog 74 := enters_of Tryd.func74 (by kernel_rfl) rfl
theorem en_75 : Enters Tryd.prog 75 := enters_of Tryd.func75 (by kernel_rfl) rfl
theorem en_76 : Enters Tryd.prog 76 := enters_of Tryd.func76 (by kernel_rfl) rfl
theorem en_77 : Enters Tryd.prog 77 := enters_of Tryd.func77 (by kernel_rfl) rfl
theorem en_78 : Enters Tryd.prog 78 := enters_of Tryd.func78 (by kernel_rfl) rfl
theorem en_79 : Enters Tryd.prog 79 := enters_of Tryd.func79 (by kernel_rfl) rfl
theorem en_80 : Enters Tryd.prog 80 := enters_of Tryd.func80 (by kernel_rfl) rfl
theorem en_81 : Enters Tryd.prog 81 := enters_of Tryd.func81 (by kernel_rfl) rfl
theorem en_82 : Enters Tryd.prog 82 := enters_of Tryd.func82 (by kernel_rfl) rfl
theorem en_83 : Enters Tryd.prog 83 := enters_of Tryd.func83 (by kernel_rfl) rfl
theorem en_84 : Enters Tryd.prog 84 := enters_of Tryd.func84 (by kernel_rfl) rfl
theorem en_85 : Enters Tryd.prog 85 := enters_of Tryd.func85 (by kernel_rfl) rfl
theorem en_86 : Enters Tryd.prog 86 := enters_of Tryd.func86 (by kernel_rfl) rfl
theorem en_87 : Enters Tryd.prog 87 := enters_of Tryd.func87 (by kernel_rfl) rfl
theorem en_88 : Enters Tryd.prog 88 := enters_of Tryd.func88 (by kernel_rfl) rfl
theorem en_89 : Enters Tryd.prog 89 := enters_of Tryd.func89 (by kernel_rfl) rfl
theorem en_90 : Enters Tryd.prog 90 := enters_of Tryd.func90 (by kernel_rfl) rfl
theorem en_91 : Enters Tryd.prog 91 := enters_of Tryd.func91 (by kernel_rfl) rfl
theorem en_92 : Enters Tryd.prog 92 := enters_of Tryd.func92 (by kernel_rfl) rfl
theorem en_93 : Enters Tryd.prog 93 := enters_of Tryd.func93 (by kernel_rfl) rfl
theorem en_94 : Enters Tryd.prog 94 := enters_of Tryd.func94 (by kernel_rfl) rfl
theorem en_95 : Enters Tryd.prog 95 := enters_of Tryd.func95 (by kernel_rfl) rfl
theorem en_96 : Enters Tryd.prog 96 := enters_of Tryd.func96 (by kernel_rfl) rfl
theorem en_97 : Enters Tryd.prog 97 := enters_of Tryd.func97 (by kernel_rfl) rfl
theorem en_98 : Enters Tryd.prog 98 := enters_of Tryd.func98 (by kernel_rfl) rfl
theorem en_99 : Enters Tryd.prog 99 := enters_of Tryd.func99 (by kernel_rfl) rfl
theorem en_100 : Enters Tryd.prog 100 := enters_of Tryd.func100 (by kernel_rfl) rfl
theorem en_101 : Enters Tryd.prog 101 := enters_of Tryd.func101 (by kernel_rfl) rfl
theorem en_102 : Enters Tryd.prog 102 := enters_of Tryd.func102 (by kernel_rfl) rfl
theorem en_103 : Enters Tryd.prog 103 := enters_of Tryd.func103 (by kernel_rfl) rfl
theorem en_104 : Enters Tryd.prog 104 := enters_of Tryd.func104 (by kernel_rfl) rfl
theorem en_105 : Enters Tryd.prog 105 := enters_of Tryd.func105 (by kernel_rfl) rfl
theorem en_106 : Enters Tryd.prog 106 := enters_of Tryd.func106 (by kernel_rfl) rfl
theorem en_107 : Enters Tryd.prog 107 := enters_of Tryd.func107 (by kernel_rfl) rfl
theorem en_108 : Enters Tryd.prog 108 := enters_of Tryd.func108 (by kernel_rfl) rfl
theorem en_109 : Enters Tryd.prog 109 := enters_of Tryd.func109 (by kernel_rfl) rfl
theorem en_110 : Enters Tryd.prog 110 := enters_of Tryd.func110 (by kernel_rfl) rfl

theorem letter_walk (c : Int) (σ : St)  : ACalls Tryd.prog 20 [.int .i32 c] σ (fun e s => σ = s ∧ e = .ret (.bool (letterS c))) := by
  refine ACalls.enter hT Tryd.func20 rfl (by kernel_rfl) ?_
  refine ACode.seq ?_
  refine ACode.run hT (fun _ => false) [0] (fr' := ⟨[(0, .int .i32 c)], [], [], [], 0⟩) (σ' := σ) (ob := True ∧ True) (by kernel_rfl) ⟨trivial, trivial⟩ ?_
  refine ACode.seq ?_
  refine ACode.meet ⟨[(2, .bool ((c == 95) || (bif decide (c ≥ 97) then (decide (c ≤ 122)) || ((decide (c ≥ 65)) && (decide (c ≤ 90))) else (decide (c ≥ 65)) && (decide (c ≤ 90)))))], [], [], [], 0⟩ σ (ACode.region ?_) ?_
  ·
    refine AOps.runN hT (fun _ => false) 3 [0, 5] (fr' := ⟨[(0, .int .i32 c), (5, .bool (c == 95))], [], [], [], 0⟩) (σ' := σ) (ob := True ∧ True ∧ True ∧ True) (by kernel_rfl) ⟨trivial, trivial, trivial, trivial⟩ ?_
    cases h1 : (c == 95)
    · -- c == 95 is false
      have h1k := ne_of_beq_false h1
      refine AOps.runN hT (fun _ => false) 3 [0, 5, 8] (fr' := ⟨[(0, .int .i32 c), (5, .bool false), (8, .bool (decide (c ≥ 97)))], [], [], [], 0⟩) (σ' := σ) (ob := True ∧ True ∧ True ∧ True) (by kernel_rfl) ⟨trivial, trivial, trivial, trivial⟩ ?_
      cases h2 : (decide (c ≥ 97))
      · -- decide (c ≥ 97) is false
        have h2k := of_decide_eq_false h2
        refine AOps.runN hT (fun _ => false) 8 [0, 13, 16] (fr' := ⟨[(0, .int .i32 c), (13, .bool false), (16, .bool (decide (c ≥ 65)))], [], [], [], 0⟩) (σ' := σ) (ob := True ∧ True ∧ True ∧ True ∧ True ∧ True ∧ True) (by kernel_rfl) ⟨trivial, trivial, trivial, trivial, trivial, trivial, trivial⟩ ?_
        cases h3 : (decide (c ≥ 65))
        · -- decide (c ≥ 65) is false
          have h3k := of_decide_eq_false h3
          refine AOps.runN hT (fun _ => false) 5 [2] (fr' := ⟨[(2, .bool false)], [], [], [], 0⟩) (σ' := σ) (ob := True ∧ True ∧ True ∧ True) (by kernel_rfl) ⟨trivial, trivial, trivial, trivial⟩ ?_
          refine AOps.weak [2] (AOps.nil ⟨rfl, rfl⟩)
        · -- decide (c ≥ 65) is true
          have h3k := of_decide_eq_true h3
          refine AOps.runN hT (fun _ => false) 5 [2] (fr' := ⟨[(2, .bool (decide (c ≤ 90)))], [], [], [], 0⟩) (σ' := σ) (ob := True ∧ True ∧ True ∧ True ∧ True ∧ True) (by kernel_rfl) ⟨trivial, trivial, trivial, trivial, trivial, trivial⟩ ?_
          refine AOps.weak [2] (AOps.nil ⟨rfl, rfl⟩)
      · -- decide (c ≥ 97) is true
        have h2k := of_decide_eq_true h2
        refine AOps.runN hT (fun _ => false) 5 [0, 13] (fr' := ⟨[(0, .int .i32 c), (13, .bool (decide (c ≤ 122)))], [], [], [], 0⟩) (σ' := σ) (ob := True ∧ True ∧ True ∧ True ∧ True ∧ True) (by kernel_rfl) ⟨trivial, trivial, trivial, trivial, trivial, trivial⟩ ?_
        cases h4 : (decide (c ≤ 122))
        · -- decide (c ≤ 122) is false
          have h4k := of_decide_eq_false h4
          refine AOps.runN hT (fun _ => false) 3 [0, 13, 16] (fr' := ⟨[(0, .int .i32 c), (13, .bool false), (16, .bool (decide (c ≥ 65)))], [], [], [], 0⟩) (σ' := σ) (ob := True ∧ True ∧ True ∧ True) (by kernel_rfl) ⟨trivial, trivial, trivial, trivial⟩ ?_
          cases h5 : (decide (c ≥ 65))
          · -- decide (c ≥ 65) is false
            have h5k := of_decide_eq_false h5
            refine AOps.runN hT (fun _ => false) 5 [2] (fr' := ⟨[(2, .bool false)], [], [], [], 0⟩) (σ' := σ) (ob := True ∧ True ∧ True ∧ True) (by kernel_rfl) ⟨trivial, trivial, trivial, trivial⟩ ?_
            refine AOps.weak [2] (AOps.nil ⟨rfl, rfl⟩)
          · -- decide (c ≥ 65) is true
            have h5k := of_decide_eq_true h5
            refine AOps.runN hT (fun _ => false) 5 [2] (fr' := ⟨[(2, .bool (decide (c ≤ 90)))], [], [], [], 0⟩) (σ' := σ) (ob := True ∧ True ∧ True ∧ True ∧ True ∧ True) (by kernel_rfl) ⟨trivial, trivial, trivial, trivial, trivial, trivial⟩ ?_
            refine AOps.weak [2] (AOps.nil ⟨rfl, rfl⟩)
        · -- decide (c ≤ 122) is true
          have h4k := of_decide_eq_true h4
          refine AOps.runN hT (fun _ => false) 8 [2] (fr' := ⟨[(2, .bool true)], [], [], [], 0⟩) (σ' := σ) (ob := True ∧ True ∧ True) (by kernel_rfl) ⟨trivial, trivial, trivial⟩ ?_
          refine AOps.weak [2] (AOps.nil ⟨rfl, rfl⟩)
    · -- c == 95 is true
      have h1k := eq_of_beq h1
      refine AOps.runN hT (fun _ => false) 16 [2] (fr' := ⟨[(2, .bool true)], [], [], [], 0⟩) (σ' := σ) (ob := True ∧ True ∧ True ∧ True ∧ True) (by kernel_rfl) ⟨trivial, trivial, trivial, trivial, trivial⟩ ?_
      refine AOps.weak [2] (AOps.nil ⟨rfl, rfl⟩)
  -- on
  refine ACode.ret ?_
  refine retQ.ret (.bool ((c == 95) || (bif decide (c ≥ 97) then (decide (c ≤ 122)) || ((decide (c ≥ 65)) && (decide (c ≤ 90))) else (decide (c ≥ 65)) && (decide (c ≤ 90))))) (by kernel_rfl) ?_
  refine ⟨rfl, ?_⟩
  simp only [letterS]; cases c == 95 <;> cases decide (c ≥ 97) <;> cases decide (c ≤ 122) <;> rfl
theorem digit_walk (c : Int) (σ : St)  : ACalls Tryd.prog 21 [.int .i32 c] σ (fun e s => σ = s ∧ e = .ret (.bool (digitS c))) := by
  refine ACalls.enter hT Tryd.func21 rfl (by kernel_rfl) ?_
  refine ACode.seq ?_
  refine ACode.run hT (fun _ => false) [0] (fr' := ⟨[(0, .int .i32 c)], [], [], [], 0⟩) (σ' := σ) (ob := True ∧ True) (by kernel_rfl) ⟨trivial, trivial⟩ ?_
  refine ACode.seq ?_
  refine ACode.meet ⟨[(2, .bool ((decide (c ≥ 48)) && (decide (c ≤ 57))))], [], [], [], 0⟩ σ (ACode.region ?_) ?_
  ·
    refine AOps.runN hT (fun _ => false) 3 [0, 5] (fr' := ⟨[(0, .int .i32 c), (5, .bool (decide (c ≥ 48)))], [], [], [], 0⟩) (σ' := σ) (ob := True ∧ True ∧ True ∧ True) (by kernel_rfl) ⟨trivial, trivial, trivial, trivial⟩ ?_
    cases h1 : (decide (c ≥ 48))
    · -- decide (c ≥ 48) is false
      have h1k := of_decide_eq_false h1
      refine AOps.runN hT (fun _ => false) 4 [2] (fr' := ⟨[(2, .bool false)], [], [], [], 0⟩) (σ' := σ) (ob := True ∧ True ∧ True) (by kernel_rfl) ⟨trivial, trivial, trivial⟩ ?_
      refine AOps.weak [2] (AOps.nil ⟨rfl, rfl⟩)
    · -- decide (c ≥ 48) is true
      have h1k := of_decide_eq_true h1
      refine AOps.runN hT (fun _ => false) 4 [2] (fr' := ⟨[(2, .bool (decide (c ≤ 57)))], [], [], [], 0⟩) (σ' := σ) (ob := True ∧ True ∧ True ∧ True ∧ True) (by kernel_rfl) ⟨trivial, trivial, trivial, trivial, trivial⟩ ?_
      refine AOps.weak [2] (AOps.nil ⟨rfl, rfl⟩)
  -- on
  refine ACode.ret ?_
  exact retQ.ret (.bool ((decide (c ≥ 48)) && (decide (c ≤ 57)))) (by kernel_rfl) ⟨rfl, rfl⟩
theorem Letter_walk (c : Int) (σ : St)  : ACalls Tryd.prog 23 [.int .u8 c] σ (fun e s => σ = s ∧ e = .ret (.bool (letterS c))) := by
  refine ACalls.enter hT Tryd.func23 rfl (by kernel_rfl) ?_
  refine ACode.seq ?_
  refine ACode.run hT (fun _ => false) [0] (fr' := ⟨[(0, .int .u8 c)], [], [], [], 0⟩) (σ' := σ) (ob := True ∧ True) (by kernel_rfl) ⟨trivial, trivial⟩ ?_
  refine ACode.seq ?_
  refine ACode.meet ⟨[(2, .bool (bif decide (c ≥ 97) then (decide (c ≤ 122)) || (bif decide (c ≥ 65) then (decide (c ≤ 90)) || (c == 95) else c == 95) else bif decide (c ≥ 65) then (decide (c ≤ 90)) || (c == 95) else c == 95))], [], [], [], 0⟩ σ (ACode.region ?_) ?_
  ·
    refine AOps.runN hT (fun _ => false) 3 [0, 5] (fr' := ⟨[(0, .int .u8 c), (5, .bool (decide (c ≥ 97)))], [], [], [], 0⟩) (σ' := σ) (ob := True ∧ True ∧ True ∧ True) (by kernel_rfl) ⟨trivial, trivial, trivial, trivial⟩ ?_
    cases h1 : (decide (c ≥ 97))
    · -- decide (c ≥ 97) is false
      have h1k := of_decide_eq_false h1
      refine AOps.runN hT (fun _ => false) 7 [0, 9, 12] (fr' := ⟨[(0, .int .u8 c), (9, .bool false), (12, .bool (decide (c ≥ 65)))], [], [], [], 0⟩) (σ' := σ) (ob := True ∧ True ∧ True ∧ True ∧ True ∧ True) (by kernel_rfl) ⟨trivial, trivial, trivial, trivial, trivial, trivial⟩ ?_
      cases h2 : (decide (c ≥ 65))
      · -- decide (c ≥ 65) is false
        have h2k := of_decide_eq_false h2
        refine AOps.runN hT (fun _ => false) 9 [2] (fr' := ⟨[(2, .bool (c == 95))], [], [], [], 0⟩) (σ' := σ) (ob := True ∧ True ∧ True ∧ True ∧ True ∧ True ∧ True ∧ True) (by kernel_rfl) ⟨trivial, trivial, trivial, trivial, trivial, trivial, trivial, trivial⟩ ?_
        refine AOps.weak [2] (AOps.nil ⟨rfl, rfl⟩)
      · -- decide (c ≥ 65) is true
        have h2k := of_decide_eq_true h2
        refine AOps.runN hT (fun _ => false) 5 [0, 17] (fr' := ⟨[(0, .int .u8 c), (17, .bool (decide (c ≤ 90)))], [], [], [], 0⟩) (σ' := σ) (ob := True ∧ True ∧ True ∧ True ∧ True ∧ True) (by kernel_rfl) ⟨trivial, trivial, trivial, trivial, trivial, trivial⟩ ?_
        cases h3 : (decide (c ≤ 90))
        · -- decide (c ≤ 90) is false
          have h3k := of_decide_eq_false h3
          refine AOps.runN hT (fun _ => false) 4 [2] (fr' := ⟨[(2, .bool (c == 95))], [], [], [], 0⟩) (σ' := σ) (ob := True ∧ True ∧ True ∧ True ∧ True) (by kernel_rfl) ⟨trivial, trivial, trivial, trivial, trivial⟩ ?_
          refine AOps.weak [2] (AOps.nil ⟨rfl, rfl⟩)
        · -- decide (c ≤ 90) is true
          have h3k := of_decide_eq_true h3
          refine AOps.runN hT (fun _ => false) 4 [2] (fr' := ⟨[(2, .bool true)], [], [], [], 0⟩) (σ' := σ) (ob := True ∧ True ∧ True) (by kernel_rfl) ⟨trivial, trivial, trivial⟩ ?_
          refine AOps.weak [2] (AOps.nil ⟨rfl, rfl⟩)
    · -- decide (c ≥ 97) is true
      have h1k := of_decide_eq_true h1
      refine AOps.runN hT (fun _ => false) 4 [0, 9] (fr' := ⟨[(0, .int .u8 c), (9, .bool (decide (c ≤ 122)))], [], [], [], 0⟩) (σ' := σ) (ob := True ∧ True ∧ True ∧ True ∧ True) (by kernel_rfl) ⟨trivial, trivial, trivial, trivial, trivial⟩ ?_
      cases h4 : (decide (c ≤ 122))
      · -- decide (c ≤ 122) is false
        have h4k := of_decide_eq_false h4
        refine AOps.runN hT (fun _ => false) 3 [0, 9, 12] (fr' := ⟨[(0, .int .u8 c), (9, .bool false), (12, .bool (decide (c ≥ 65)))], [], [], [], 0⟩) (σ' := σ) (ob := True ∧ True ∧ True ∧ True) (by kernel_rfl) ⟨trivial, trivial, trivial, trivial⟩ ?_
        cases h5 : (decide (c ≥ 65))
        · -- decide (c ≥ 65) is false
          have h5k := of_decide_eq_false h5
          refine AOps.runN hT (fun _ => false) 9 [2] (fr' := ⟨[(2, .bool (c == 95))], [], [], [], 0⟩) (σ' := σ) (ob := True ∧ True ∧ True ∧ True ∧ True ∧ True ∧ True ∧ True) (by kernel_rfl) ⟨trivial, trivial, trivial, trivial, trivial, trivial, trivial, trivial⟩ ?_
          refine AOps.weak [2] (AOps.nil ⟨rfl, rfl⟩)
        · -- decide (c ≥ 65) is true
          have h5k := of_decide_eq_true h5
          refine AOps.runN hT (fun _ => false) 5 [0, 17] (fr' := ⟨[(0, .int .u8 c), (17, .bool (decide (c ≤ 90)))], [], [], [], 0⟩) (σ' := σ) (ob := True ∧ True ∧ True ∧ True ∧ True ∧ True) (by kernel_rfl) ⟨trivial, trivial, trivial, trivial, trivial, trivial⟩ ?_
          cases h6 : (decide (c ≤ 90))
          · -- decide (c ≤ 90) is false
            have h6k := of_decide_eq_false h6
            refine AOps.runN hT (fun _ => false) 4 [2] (fr' := ⟨[(2, .bool (c == 95))], [], [], [], 0⟩) (σ' := σ) (ob := True ∧ True ∧ True ∧ True ∧ True) (by kernel_rfl) ⟨trivial, trivial, trivial, trivial, trivial⟩ ?_
            refine AOps.weak [2] (AOps.nil ⟨rfl, rfl⟩)
          · -- decide (c ≤ 90) is true
            have h6k := of_decide_eq_true h6
            refine AOps.runN hT (fun _ => false) 4 [2] (fr' := ⟨[(2, .bool true)], [], [], [], 0⟩) (σ' := σ) (ob := True ∧ True ∧ True) (by kernel_rfl) ⟨trivial, trivial, trivial⟩ ?_
            refine AOps.weak [2] (AOps.nil ⟨rfl, rfl⟩)
      · -- decide (c ≤ 122) is true
        have h4k := of_decide_eq_true h4
        refine AOps.runN hT (fun _ => false) 12 [2] (fr' := ⟨[(2, .bool true)], [], [], [], 0⟩) (σ' := σ) (ob := True ∧ True ∧ True ∧ True ∧ True) (by kernel_rfl) ⟨trivial, trivial, trivial, trivial, trivial⟩ ?_
        refine AOps.weak [2] (AOps.nil ⟨rfl, rfl⟩)
  -- on
  refine ACode.ret ?_
  refine retQ.ret (.bool (bif decide (c ≥ 97) then (decide (c ≤ 122)) || (bif decide (c ≥ 65) then (decide (c ≤ 90)) || (c == 95) else c == 95) else bif decide (c ≥ 65) then (decide (c ≤ 90)) || (c == 95) else c == 95)) (by kernel_rfl) ?_
  refine ⟨rfl, ?_⟩
  simp only [letterS]; cases c == 95 <;> cases decide (c ≥ 97) <;> cases decide (c ≤ 122) <;> cases decide (c ≥ 65) <;> cases decide (c ≤ 90) <;> rfl
theorem Digit_walk (c : Int) (σ : St)  : ACalls Tryd.prog 24 [.int .u8 c] σ (fun e s => σ = s ∧ e = .ret (.bool (digitS c))) := by
  refine ACalls.enter hT Tryd.func24 rfl (by kernel_rfl) ?_
  refine ACode.seq ?_
  refine ACode.run hT (fun _ => false) [0] (fr' := ⟨[(0, .int .u8 c)], [], [], [], 0⟩) (σ' := σ) (ob := True ∧ True) (by kernel_rfl) ⟨trivial, trivial⟩ ?_
  refine ACode.seq ?_
  refine ACode.meet ⟨[(2, .bool ((decide (c ≥ 48)) && (decide (c ≤ 57))))], [], [], [], 0⟩ σ (ACode.region ?_) ?_
  ·
    refine AOps.runN hT (fun _ => false) 3 [0, 5] (fr' := ⟨[(0, .int .u8 c), (5, .bool (decide (c ≥ 48)))], [], [], [], 0⟩) (σ' := σ) (ob := True ∧ True ∧ True ∧ True) (by kernel_rfl) ⟨trivial, trivial, trivial, trivial⟩ ?_
    cases h1 : (decide (c ≥ 48))
    · -- decide (c ≥ 48) is false
      have h1k := of_decide_eq_false h1
      refine AOps.runN hT (fun _ => false) 4 [2] (fr' := ⟨[(2, .bool false)], [], [], [], 0⟩) (σ' := σ) (ob := True ∧ True ∧ True) (by kernel_rfl) ⟨trivial, trivial, trivial⟩ ?_
      refine AOps.weak [2] (AOps.nil ⟨rfl, rfl⟩)
    · -- decide (c ≥ 48) is true
      have h1k := of_decide_eq_true h1
      refine AOps.runN hT (fun _ => false) 4 [2] (fr' := ⟨[(2, .bool (decide (c ≤ 57)))], [], [], [], 0⟩) (σ' := σ) (ob := True ∧ True ∧ True ∧ True ∧ True) (by kernel_rfl) ⟨trivial, trivial, trivial, trivial, trivial⟩ ?_
      refine AOps.weak [2] (AOps.nil ⟨rfl, rfl⟩)
  -- on
  refine ACode.ret ?_
  exact retQ.ret (.bool ((decide (c ≥ 48)) && (decide (c ≤ 57)))) (by kernel_rfl) ⟨rfl, rfl⟩
theorem notLF_walk (c : Int) (σ : St)  : ACalls Tryd.prog 35 [.int .i32 c] σ (fun e s => σ = s ∧ e = .ret (.bool (c != 10))) := by
  refine ACalls.enter hT Tryd.func35 rfl (by kernel_rfl) ?_
  refine ACode.seq ?_
  refine ACode.run hT (fun _ => false) [0] (fr' := ⟨[(0, .int .i32 c)], [], [], [], 0⟩) (σ' := σ) (ob := True ∧ True) (by kernel_rfl) ⟨trivial, trivial⟩ ?_
  refine ACode.seq ?_
  refine ACode.run hT (fun _ => false) [2] (fr' := ⟨[(2, .bool (c != 10))], [], [], [], 0⟩) (σ' := σ) (ob := True ∧ True ∧ True ∧ True) (by kernel_rfl) ⟨trivial, trivial, trivial, trivial⟩ ?_
  refine ACode.ret ?_
  exact retQ.ret (.bool (c != 10)) (by kernel_rfl) ⟨rfl, rfl⟩
theorem word1_walk (c : Int) (σ : St)  : ACalls Tryd.prog 51 [.int .i32 c] σ (fun e s => σ = s ∧ e = .ret (.bool (wordS c))) := by
  refine ACalls.enter hT Tryd.func51 rfl (by kernel_rfl) ?_
  refine ACode.seq ?_
  refine ACode.run hT (fun _ => false) [0] (fr' := ⟨[(0, .int .i32 c)], [], [], [], 0⟩) (σ' := σ) (ob := True ∧ True) (by kernel_rfl) ⟨trivial, trivial⟩ ?_
  refine ACode.seq ?_
  refine ACode.meet ⟨[(2, .bool ((letterS c) || (digitS c)))], [], [], [], 0⟩ σ (ACode.region ?_) ?_
  ·
    refine AOps.runN hT (fun _ => false) 1 [0, 3] (fr' := ⟨[(0, .int .i32 c), (3, .int .i32 c)], [], [], [], 0⟩) (σ' := σ) (ob := True ∧ True) (by kernel_rfl) ⟨trivial, trivial⟩ ?_
    refine AOps.call (fid := 20) (cap := []) (avs := [.int .i32 c]) (by kernel_rfl) rfl (by kernel_rfl) (by kernel_rfl) en_20 (by kernel_rfl) (ACalls.mono (letter_walk c _) ?_)
    rintro _ _ ⟨rfl, rfl⟩
    refine AOps.runN hT (fun _ => false) 1 [0, 5] (fr' := ⟨[(0, .int .i32 c), (5, .bool (letterS c))], [], [], [], 0⟩) (σ' := σ) (ob := True ∧ True) (by kernel_rfl) ⟨trivial, trivial⟩ ?_
    cases h1 : (letterS c)
    · -- letterS c is false
      skip
      refine AOps.runN hT (fun _ => false) 1 [5, 6] (fr' := ⟨[(5, .bool false), (6, .int .i32 c)], [], [], [], 0⟩) (σ' := σ) (ob := True ∧ True) (by kernel_rfl) ⟨trivial, trivial⟩ ?_
      refine AOps.call (fid := 21) (cap := []) (avs := [.int .i32 c]) (by kernel_rfl) rfl (by kernel_rfl) (by kernel_rfl) en_21 (by kernel_rfl) (ACalls.mono (digit_walk c _) ?_)
      rintro _ _ ⟨rfl, rfl⟩
      refine AOps.runN hT (fun _ => false) 2 [2] (fr' := ⟨[(2, .bool (digitS c))], [], [], [], 0⟩) (σ' := σ) (ob := True ∧ True ∧ True) (by kernel_rfl) ⟨trivial, trivial, trivial⟩ ?_
      refine AOps.weak [2] (AOps.nil ⟨rfl, rfl⟩)
    · -- letterS c is true
      skip
      refine AOps.runN hT (fun _ => false) 4 [2] (fr' := ⟨[(2, .bool true)], [], [], [], 0⟩) (σ' := σ) (ob := True ∧ True ∧ True) (by kernel_rfl) ⟨trivial, trivial, trivial⟩ ?_
      refine AOps.weak [2] (AOps.nil ⟨rfl, rfl⟩)
  -- on
  refine ACode.ret ?_
  exact retQ.ret (.bool ((letterS c) || (digitS c))) (by kernel_rfl) ⟨rfl, rfl⟩
theorem real1_walk (c : Int) (σ : St)  : ACalls Tryd.prog 54 [.int .i32 c] σ (fun e s => σ = s ∧ e = .ret (.bool (wordS c))) := by
  refine ACalls.enter hT Tryd.func54 rfl (by kernel_rfl) ?_
  refine ACode.seq ?_
  refine ACode.run hT (fun _ => false) [0] (fr' := ⟨[(0, .int .i32 c)], [], [], [], 0⟩) (σ' := σ) (ob := True ∧ True) (by kernel_rfl) ⟨trivial, trivial⟩ ?_
  refine ACode.seq ?_
  refine ACode.meet ⟨[(2, .bool ((letterS c) || (digitS c)))], [], [], [], 0⟩ σ (ACode.region ?_) ?_
  ·
    refine AOps.runN hT (fun _ => false) 1 [0, 3] (fr' := ⟨[(0, .int .i32 c), (3, .int .i32 c)], [], [], [], 0⟩) (σ' := σ) (ob := True ∧ True) (by kernel_rfl) ⟨trivial, trivial⟩ ?_
    refine AOps.call (fid := 20) (cap := []) (avs := [.int .i32 c]) (by kernel_rfl) rfl (by kernel_rfl) (by kernel_rfl) en_20 (by kernel_rfl) (ACalls.mono (letter_walk c _) ?_)
    rintro _ _ ⟨rfl, rfl⟩
    refine AOps.runN hT (fun _ => false) 1 [0, 5] (fr' := ⟨[(0, .int .i32 c), (5, .bool (letterS c))], [], [], [], 0⟩) (σ' := σ) (ob := True ∧ True) (by kernel_rfl) ⟨trivial, trivial⟩ ?_
    cases h1 : (letterS c)
    · -- letterS c is false
      skip
      refine AOps.runN hT (fun _ => false) 1 [5, 6] (fr' := ⟨[(5, .bool false), (6, .int .i32 c)], [], [], [], 0⟩) (σ' := σ) (ob := True ∧ True) (by kernel_rfl) ⟨trivial, trivial⟩ ?_
      refine AOps.call (fid := 21) (cap := []) (avs := [.int .i32 c]) (by kernel_rfl) rfl (by kernel_rfl) (by kernel_rfl) en_21 (by kernel_rfl) (ACalls.mono (digit_walk c _) ?_)
      rintro _ _ ⟨rfl, rfl⟩
      refine AOps.runN hT (fun _ => false) 2 [2] (fr' := ⟨[(2, .bool (digitS c))], [], [], [], 0⟩) (σ' := σ) (ob := True ∧ True ∧ True) (by kernel_rfl) ⟨trivial, trivial, trivial⟩ ?_
      refine AOps.weak [2] (AOps.nil ⟨rfl, rfl⟩)
    · -- letterS c is true
      skip
      refine AOps.runN hT (fun _ => false) 4 [2] (fr' := ⟨[(2, .bool true)], [], [], [], 0⟩) (σ' := σ) (ob := True ∧ True ∧ True) (by kernel_rfl) ⟨trivial, trivial, trivial⟩ ?_
      refine AOps.weak [2] (AOps.nil ⟨rfl, rfl⟩)
  -- on
  refine ACode.ret ?_
  exact retQ.ret (.bool ((letterS c) || (digitS c))) (by kernel_rfl) ⟨rfl, rfl⟩
theorem hasPrefix_walk0 (a b : List UInt8) (σ : St)  : ACalls Tryd.prog 49 [.str a, .str b] σ (fun e s => σ = s ∧ e = .ret (.bool (b.isPrefixOf a))) := by
  refine ACalls.enter hT Tryd.func49 rfl (by kernel_rfl) ?_
  refine ACode.seq ?_
  refine ACode.run hT (fun _ => false) [0, 1] (fr' := ⟨[(0, .str a), (1, .str b)], [], [], [], 0⟩) (σ' := σ) (ob := True ∧ True) (by kernel_rfl) ⟨trivial, trivial⟩ ?_
  refine ACode.seq ?_
  refine ACode.meet ⟨[(4, .bool ((decide ((((a) : List UInt8).length : Int) ≥ (((b) : List UInt8).length : Int))) && ((a.take (((b) : List UInt8).length)) == b)))], [], [], [], 0⟩ σ (ACode.region ?_) ?_
  ·
    refine AOps.runN hT (fun _ => false) 6 [0, 1, 10] (fr' := ⟨[(0, .str a), (1, .str b), (10, .bool (decide ((((a) : List UInt8).length : Int) ≥ (((b) : List UInt8).length : Int))))], [], [], [], 0⟩) (σ' := σ) (ob := True ∧ True ∧ True ∧ True ∧ True ∧ True ∧ True) (by kernel_rfl) ⟨trivial, trivial, trivial, trivial, trivial, trivial, trivial⟩ ?_
    cases h1 : (decide ((((a) : List UInt8).length : Int) ≥ (((b) : List UInt8).length : Int)))
    · -- decide ((((a) : List UInt8).length : Int) ≥ (((b) : List UInt8).length : Int)) is false
      have h1k := of_decide_eq_false h1
      refine AOps.runN hT (fun _ => false) 8 [4] (fr' := ⟨[(4, .bool false)], [], [], [], 0⟩) (σ' := σ) (ob := True ∧ True ∧ True) (by kernel_rfl) ⟨trivial, trivial, trivial⟩ ?_
      refine AOps.weak [4] (AOps.nil ⟨rfl, rfl⟩)
    · -- decide ((((a) : List UInt8).length : Int) ≥ (((b) : List UInt8).length : Int)) is true
      have h1k := of_decide_eq_true h1
      refine AOps.runN hT (fun _ => false) 8 [4] (fr' := ⟨[(4, .bool ((a.take (((b) : List UInt8).length)) == b))], [], [], [], 0⟩) (σ' := σ) (ob := True ∧ True ∧ True ∧ (0 ≤ (((b) : List UInt8).length : Int) ∧ (((b) : List UInt8).length : Int) ≤ (((a) : List UInt8).length : Int)) ∧ True ∧ True ∧ True ∧ True ∧ True) (by kernel_rfl) ⟨trivial, trivial, trivial, (by have := of_decide_eq_true h1; omega), trivial, trivial, trivial, trivial, trivial⟩ ?_
      refine AOps.weak [4] (AOps.nil ⟨rfl, rfl⟩)
  -- on
  refine ACode.ret ?_
  refine retQ.ret (.bool ((decide ((((a) : List UInt8).length : Int) ≥ (((b) : List UInt8).length : Int))) && ((a.take (((b) : List UInt8).length)) == b))) (by kernel_rfl) ?_
  refine ⟨rfl, ?_⟩
  rw [isPrefixOf_eq]
theorem hasPrefix_walk (a b : List UInt8) (σ : St)  : ACalls Tryd.prog 32 [.str a, .str b] σ (fun e s => σ = s ∧ e = .ret (.bool (b.isPrefixOf a))) := by
  refine ACalls.enter hT Tryd.func32 rfl (by kernel_rfl) ?_
  refine ACode.seq ?_
  refine ACode.run hT (fun _ => false) [0, 1] (fr' := ⟨[(0, .str a), (1, .str b)], [], [], [], 0⟩) (σ' := σ) (ob := True ∧ True) (by kernel_rfl) ⟨trivial, trivial⟩ ?_
  refine ACode.seq ?_
  refine ACode.region ?_
  refine AOps.runN hT (fun _ => false) 2 [5, 6] (fr' := ⟨[(5, .str a), (6, .str b)], [], [], [], 0⟩) (σ' := σ) (ob := True ∧ True ∧ True) (by kernel_rfl) ⟨trivial, trivial, trivial⟩ ?_
  refine AOps.call (fid := 49) (cap := []) (avs := [.str a, .str b]) (by kernel_rfl) rfl (by kernel_rfl) (by kernel_rfl) en_49 (by kernel_rfl) (ACalls.mono (hasPrefix_walk0 a b _) ?_)
  rintro _ _ ⟨rfl, rfl⟩
  refine AOps.runN hT (fun _ => false) 1 [4] (fr' := ⟨[(4, .bool (b.isPrefixOf a))], [], [], [], 0⟩) (σ' := σ) (ob := True ∧ True) (by kernel_rfl) ⟨trivial, trivial⟩ ?_
  refine AOps.nil ?_
  refine ACode.ret ?_
  exact retQ.ret (.bool (b.isPrefixOf a)) (by kernel_rfl) ⟨rfl, rfl⟩
theorem lower_walk (c : Int) (σ : St)  : ACalls Tryd.prog 79 [.int .u8 c] σ (fun e s => σ = s ∧ e = .ret (.int .u8 (IntKind.u8.wrap (BitVec.ofInt 8 c ||| BitVec.ofInt 8 32).toNat))) := by
  refine ACalls.enter hT Tryd.func79 rfl (by kernel_rfl) ?_
  refine ACode.seq ?_
  refine ACode.run hT (fun _ => false) [0] (fr' := ⟨[(0, .int .u8 c)], [], [], [], 0⟩) (σ' := σ) (ob := True ∧ True) (by kernel_rfl) ⟨trivial, trivial⟩ ?_
  refine ACode.seq ?_
  refine ACode.run hT (fun _ => false) [2] (fr' := ⟨[(2, .int .u8 (IntKind.u8.wrap (BitVec.ofInt 8 c ||| BitVec.ofInt 8 32).toNat))], [], [], [], 0⟩) (σ' := σ) (ob := True ∧ True ∧ True ∧ True) (by kernel_rfl) ⟨trivial, trivial, trivial, trivial⟩ ?_
  refine ACode.ret ?_
  exact retQ.ret (.int .u8 (IntKind.u8.wrap (BitVec.ofInt 8 c ||| BitVec.ofInt 8 32).toNat)) (by kernel_rfl) ⟨rfl, rfl⟩

theorem indexByte_walk (t : List UInt8) (c : Int) (σ : St) : ACalls Tryd.prog 36 [.str t, .int .u8 c] σ (fun e s => σ = s ∧ e = .ret (.int .i64 (Lib.indexByte t c.toNat.toUInt8))) := by
  refine ACalls.of_below fun V vs hH hv => ?_
  simp only [CRs, CR] at hv
  obtain ⟨v, r, rfl, ⟨x, rfl, rfl⟩, w, r2, rfl, rfl, rfl⟩ := hv
  exact (Tryd.strings_IndexByte x c V.w).mono fun e w' ⟨h1, h2⟩ => ⟨h2 ▸ Go.RowKit.Below.refl _ _, _, rfl, fun V' _ => by subst h1; simp [EndR, CR]⟩

theorem contains1_walk (t : List UInt8) (c : UInt8) (σ : St) : ACalls Tryd.prog 22 [.str t, .str [c]] σ (fun e s => σ = s ∧ e = .ret (.bool (decide (0 ≤ Lib.indexByte t c)))) := by
  refine ACalls.of_below fun V vs hH hv => ?_
  simp only [CRs, CR] at hv
  obtain ⟨v, r, rfl, ⟨x, rfl, rfl⟩, w, r2, rfl, ⟨y, rfl, hy⟩, rfl⟩ := hv
  have hy' : y = ⟨#[c]⟩ := by
    obtain ⟨⟨l⟩⟩ := y
    simp only at hy
    subst hy
    rfl
  subst hy'
  exact (Tryd.strings_Contains_one x c V.w).mono fun e w' ⟨h1, h2⟩ => ⟨h2 ▸ Go.RowKit.Below.refl _ _, _, rfl, fun V' _ => by subst h1; simp [EndR, CR]⟩

theorem contains_walk (t u : List UInt8) (ht : t.length < 4294967281) (σ : St) : ACalls Tryd.prog 22 [.str t, .str u] σ (fun e s => σ = s ∧ e = .ret (.bool (Lib.contains t u))) := by
  refine ACalls.of_below fun V vs hH hv => ?_
  simp only [CRs, CR] at hv
  obtain ⟨v, r, rfl, ⟨x, rfl, rfl⟩, w, r2, rfl, ⟨y, rfl, rfl⟩, rfl⟩ := hv
  obtain ⟨m, hm⟩ := hH.gl.2 0 (by simp [theInt])
  simp only [GAt, CR, CRat] at hm
  obtain ⟨b, o, e, hb, he, ⟨q, hq, _, rfl⟩, _⟩ := hm
  simp only [Value.pointer.injEq, Option.some.injEq, Addr.mk.injEq, and_true] at e
  obtain ⟨rfl, rfl⟩ := e
  have hs : x.size < 4294967281 := by rw [Array.length_toList] at ht; exact ht
  exact (Tryd.strings_Contains x y m V.w hs hq).mono fun e w' ⟨h1, h2⟩ => ⟨h2 ▸ Go.RowKit.Below.refl _ _, _, rfl, fun V' _ => by subst h1; simp [EndR, CR]⟩

theorem clone_walk (t : List UInt8) (ht : t.length ≤ 281474976710656) (σ : St) : ACalls Tryd.prog 94 [.str t] σ (fun e s => σ = s ∧ e = .ret (.str t)) := by
  refine ACalls.of_below fun V vs hH hv => ?_
  simp only [CRs, CR] at hv
  obtain ⟨v, r, rfl, ⟨x, rfl, rfl⟩, rfl⟩ := hv
  have hs : x.size ≤ 281474976710656 := by rw [Array.length_toList] at ht; exact ht
  exact (Tryd.stringslite_Clone x V.w hs).mono fun e w' ⟨h1, h2⟩ => ⟨h2, _, rfl, fun V' _ => by subst h1; simp [EndR, CR]⟩

theorem containsAny_walk (t u : List UInt8) (ht : t.length < 4294967281) (hu : u.length < 4294967281) (ha : ∀ (j : Nat) b, t[j]? = some b → b.toNat < 128) (hb : ∀ (j : Nat) b, u[j]? = some b → b.toNat < 128) (σ : St) : ACalls Tryd.prog 55 [.str t, .str u] σ (fun e s => σ = s ∧ e = .ret (.bool (Lib.containsAny t u))) := by
  refine ACalls.of_below fun V vs hH hv => ?_
  simp only [CRs, CR] at hv
  obtain ⟨v, r, rfl, ⟨x, rfl, rfl⟩, w, r2, rfl, ⟨y, rfl, rfl⟩, rfl⟩ := hv
  have hs : x.size < 4294967281 := by rw [Array.length_toList] at ht; exact ht
  have hs2 : y.size < 4294967281 := by rw [Array.length_toList] at hu; exact hu
  exact (Tryd.strings_ContainsAny_laid x y V.w hs hs2 ha hb).mono fun e w' ⟨h1, h2⟩ => ⟨h2, _, rfl, fun V' _ => by subst h1; simp [EndR, CR]⟩

end Go.AE

set_option linter.unusedVariables false
set_option linter.unusedSimpArgs false
set_option maxRecDepth 4000
namespace Go.AE
open Go.Proofs

theorem skip_walk (rest : List UInt8) (line col : Int) (n : Nat) (hn : n ≤ rest.length) (hcol : 1 ≤ col) (hb : col + rest.length ≤ 4611686018427387904) (hl0 : 1 ≤ line) (hbl : line + rest.length ≤ 4611686018427387904) : ACalls Tryd.prog 33 [.ptr 0 0, .int .i64 (n : Int)] [[.str rest, .int .i64 line, .int .i64 col]] (fun e s => s = [rdAV (skipS n ⟨rest, line, col⟩)] ∧ e = .ret (.str (rest.take n))) := by
  refine ACalls.enter hT Tryd.func33 rfl (by kernel_rfl) ?_
  refine ACode.seq ?_
  refine ACode.run hT (fun _ => false) [0, 1] (fr' := ⟨[(0, .ptr 0 0), (1, .int .i64 (n : Int))], [], [], [], 0⟩) (σ' := [[.str rest, .int .i64 line, .int .i64 col]]) (ob := True ∧ True) (by kernel_rfl) ⟨trivial, trivial⟩ ?_
  refine ACode.seq ?_
  refine ACode.run hT (fun _ => false) [0, 1, 5] (fr' := ⟨[(0, .ptr 0 0), (1, .int .i64 (n : Int)), (5, .str (rest.take n))], [], [], [], 0⟩) (σ' := [[.str rest, .int .i64 line, .int .i64 col]]) (ob := True ∧ True ∧ True ∧ True ∧ True ∧ (0 ≤ (n : Int) ∧ (n : Int) ≤ (((rest) : List UInt8).length : Int)) ∧ True ∧ True) (by kernel_rfl) ⟨trivial, trivial, trivial, trivial, trivial, (by omega), trivial, trivial⟩ ?_
  refine ACode.seq ?_
  refine ACode.run hT (fun _ => false) [0, 5] (fr' := ⟨[(0, .ptr 0 0), (5, .str (rest.take n))], [], [], [], 0⟩) (σ' := [[.str (rest.drop n), .int .i64 line, .int .i64 col]]) (ob := True ∧ True ∧ True ∧ True ∧ True ∧ True ∧ (0 ≤ (n : Int) ∧ (n : Int) ≤ (((rest) : List UInt8).length : Int)) ∧ True ∧ True ∧ True ∧ True) (by kernel_rfl) ⟨trivial, trivial, trivial, trivial, trivial, trivial, (by omega), trivial, trivial, trivial, trivial⟩ ?_
  refine ACode.seq ?_
  refine ACode.seq ?_
  refine ACode.region ?_
  refine AOps.runN hT (fun _ => false) 1 [0, 5, 23] (fr' := ⟨[(0, .ptr 0 0), (5, .str (rest.take n)), (23, .str (rest.take n))], [], [], [], 0⟩) (σ' := [[.str (rest.drop n), .int .i64 line, .int .i64 col]]) (ob := True ∧ True) (by kernel_rfl) ⟨trivial, trivial⟩ ?_
  refine AOps.bytes hT (b := rest.take n) (e := 5) (by_ := 1) (by kernel_rfl) rfl (by kernel_rfl) (by kernel_rfl) (by kernel_rfl) (by kernel_rfl) (by kernel_rfl) ?_
  refine AOps.runN hT (fun _ => false) 2 [0, 5, 24, 25, 26] (fr' := ⟨[(0, .ptr 0 0), (5, .str (rest.take n)), (24, .slice (bytesAV (rest.take n)) ((rest.take n : List UInt8).length) .no), (25, .int .i64 (((rest.take n : List UInt8).length : Nat) : Int)), (26, .int .i64 0)], [], [], [], 0⟩) (σ' := [[.str (rest.drop n), .int .i64 line, .int .i64 col]]) (ob := True ∧ True ∧ True) (by kernel_rfl) ⟨trivial, trivial, trivial⟩ ?_
  refine AOps.nil ?_
  refine ACode.block ?_
  refine ACode.loop [0, 5, 24, 25, 26] 0 0 (fun n0 fr σ' => ∃ (i : Nat), fr = ⟨[(0, .ptr 0 0), (5, .str (rest.take n)), (24, .slice (bytesAV (rest.take n)) ((rest.take n).length) .no), (25, .int .i64 (((rest.take n).length : Nat) : Int)), (26, .int .i64 (i : Int))], [], [], [], 0⟩ ∧ σ' = [[.str (rest.drop n), .int .i64 (advL line ((rest.take n).take i)), .int .i64 (advC col ((rest.take n).take i))]] ∧ (i ≤ (rest.take n).length) ∧ n0 = (rest.take n).length - i) _ (by kernel_rfl) ⟨0, rfl, rfl, Nat.zero_le _, rfl⟩ ?_
  rintro n0 fr σ' ⟨i, rfl, rfl, hP, rfl⟩
  have hc := advC_le col hcol ((rest.take n).take i)
  have hl := advL_le line ((rest.take n).take i)
  have hk : ((rest.take n).take i).length ≤ rest.length := by simp; omega
  have hk2 : (rest.take n).length ≤ rest.length := by simp; omega
  refine ACode.seq ?_
  refine ACode.run hT (fun _ => false) [0, 5, 24, 25, 26, 27] (fr' := ⟨[(0, .ptr 0 0), (5, .str (rest.take n)), (24, .slice (bytesAV (rest.take n)) ((rest.take n).length) .no), (25, .int .i64 (((rest.take n).length : Nat) : Int)), (26, .int .i64 (i : Int)), (27, .bool (decide ((i : Int) < (((rest.take n).length : Nat) : Int))))], [], [], [], 0⟩) (σ' := [[.str (rest.drop n), .int .i64 (advL line ((rest.take n).take i)), .int .i64 (advC col ((rest.take n).take i))]]) (ob := True ∧ True) (by kernel_rfl) ⟨trivial, trivial⟩ ?_
  refine ACode.seq ?_
  refine ACode.cond (t := decide ((i : Int) < (((rest.take n).length : Nat) : Int))) (by kernel_rfl) (fun h1 => ?_) (fun h1 => ?_)
  · -- true
    have h1k := of_decide_eq_true h1
    refine ACode.skip ?_
    refine ACode.seq ?_
    refine ACode.block ?_
    refine ACode.seq ?_
    refine ACode.region ?_
    refine AOps.runN hT (fun _ => false) 1 [0, 5, 24, 25, 26, 28] (fr' := ⟨[(0, .ptr 0 0), (5, .str (rest.take n)), (24, .slice (bytesAV (rest.take n)) ((rest.take n).length) .no), (25, .int .i64 (((rest.take n).length : Nat) : Int)), (26, .int .i64 (i : Int)), (28, .dat (((bytesAV (rest.take n) : List AV).drop (i * 1)).take 1))], [], [], [], 0⟩) (σ' := [[.str (rest.drop n), .int .i64 (advL line ((rest.take n).take i)), .int .i64 (advC col ((rest.take n).take i))]]) (ob := (0 ≤ ((i : Int) : Int) ∧ ((i : Int) : Int) < ((rest.take n).length : Nat) ∧ i * 1 ≤ (bytesAV (rest.take n) : List AV).length) ∧ True) (by kernel_rfl) ⟨(by have h9 := of_decide_eq_true h1; simp only [bytesAV_length]; omega), trivial⟩ ?_
    rw [bytesAV_at (rest.take n) i (by simp at *; omega)]
    refine AOps.runN hT (fun _ => false) 2 [0, 5, 7, 24, 25, 26] (fr' := ⟨[(0, .ptr 0 0), (5, .str (rest.take n)), (7, .int .u8 (((rest.take n).getD i 0).toNat : Int)), (24, .slice (bytesAV (rest.take n)) ((rest.take n).length) .no), (25, .int .i64 (((rest.take n).length : Nat) : Int)), (26, .int .i64 (i : Int))], [], [], [], 0⟩) (σ' := [[.str (rest.drop n), .int .i64 (advL line ((rest.take n).take i)), .int .i64 (advC col ((rest.take n).take i))]]) (ob := True ∧ True ∧ True) (by kernel_rfl) ⟨trivial, trivial, trivial⟩ ?_
    refine AOps.nil ?_
    refine ACode.seq ?_
    refine ACode.run hT (fun _ => false) [0, 5, 7, 24, 25, 26] (fr' := ⟨[(0, .ptr 0 0), (5, .str (rest.take n)), (7, .int .u8 (((rest.take n).getD i 0).toNat : Int)), (24, .slice (bytesAV (rest.take n)) ((rest.take n).length) .no), (25, .int .i64 (((rest.take n).length : Nat) : Int)), (26, .int .i64 (i : Int))], [], [], [], 0⟩) (σ' := [[.str (rest.drop n), .int .i64 (advL line ((rest.take n).take i)), .int .i64 (IntKind.i64.wrap ((advC col ((rest.take n).take i)) + 1))]]) (ob := True ∧ True ∧ True ∧ True ∧ True ∧ True ∧ True ∧ True ∧ True) (by kernel_rfl) ⟨trivial, trivial, trivial, trivial, trivial, trivial, trivial, trivial, trivial⟩ ?_
    rw [IntWalk.i64_in ((advC col ((rest.take n).take i)) + 1) (by omega)]
    refine ACode.seq ?_
    refine ACode.run hT (fun _ => false) [0, 5, 24, 25, 26, 38] (fr' := ⟨[(0, .ptr 0 0), (5, .str (rest.take n)), (24, .slice (bytesAV (rest.take n)) ((rest.take n).length) .no), (25, .int .i64 (((rest.take n).length : Nat) : Int)), (26, .int .i64 (i : Int)), (38, .bool ((((rest.take n).getD i 0).toNat : Int) == 10))], [], [], [], 0⟩) (σ' := [[.str (rest.drop n), .int .i64 (advL line ((rest.take n).take i)), .int .i64 ((advC col ((rest.take n).take i)) + 1)]]) (ob := True ∧ True ∧ True) (by kernel_rfl) ⟨trivial, trivial, trivial⟩ ?_
    refine ACode.cond (t := (((rest.take n).getD i 0).toNat : Int) == 10) (by kernel_rfl) (fun h2 => ?_) (fun h2 => ?_)
    · -- true
      have h2k := eq_of_beq h2
      refine ACode.seq ?_
      refine ACode.run hT (fun _ => false) [0, 5, 24, 25, 26] (fr' := ⟨[(0, .ptr 0 0), (5, .str (rest.take n)), (24, .slice (bytesAV (rest.take n)) ((rest.take n).length) .no), (25, .int .i64 (((rest.take n).length : Nat) : Int)), (26, .int .i64 (i : Int))], [], [], [], 0⟩) (σ' := [[.str (rest.drop n), .int .i64 (IntKind.i64.wrap ((advL line ((rest.take n).take i)) + 1)), .int .i64 ((advC col ((rest.take n).take i)) + 1)]]) (ob := True ∧ True ∧ True ∧ True ∧ True ∧ True ∧ True ∧ True ∧ True) (by kernel_rfl) ⟨trivial, trivial, trivial, trivial, trivial, trivial, trivial, trivial, trivial⟩ ?_
      rw [IntWalk.i64_in ((advL line ((rest.take n).take i)) + 1) (by omega)]
      refine ACode.run hT (fun _ => false) [0, 5, 24, 25, 26] (fr' := ⟨[(0, .ptr 0 0), (5, .str (rest.take n)), (24, .slice (bytesAV (rest.take n)) ((rest.take n).length) .no), (25, .int .i64 (((rest.take n).length : Nat) : Int)), (26, .int .i64 (i : Int))], [], [], [], 0⟩) (σ' := [[.str (rest.drop n), .int .i64 ((advL line ((rest.take n).take i)) + 1), .int .i64 1]]) (ob := True ∧ True ∧ True ∧ True ∧ True) (by kernel_rfl) ⟨trivial, trivial, trivial, trivial, trivial⟩ ?_
      refine ACode.run hT (fun _ => false) [0, 5, 24, 25, 26] (fr' := ⟨[(0, .ptr 0 0), (5, .str (rest.take n)), (24, .slice (bytesAV (rest.take n)) ((rest.take n).length) .no), (25, .int .i64 (((rest.take n).length : Nat) : Int)), (26, .int .i64 (IntKind.i64.wrap ((i : Int) + 1)))], [], [], [], 0⟩) (σ' := [[.str (rest.drop n), .int .i64 ((advL line ((rest.take n).take i)) + 1), .int .i64 1]]) (ob := True ∧ True ∧ True) (by kernel_rfl) ⟨trivial, trivial, trivial⟩ ?_
      rw [IntWalk.i64_in ((i : Int) + 1) (by omega)]
      refine ⟨by kernel_rfl, _, ?_, i + 1, rfl, (by have h9 : i < (rest.take n).length := (by have := of_decide_eq_true h1; omega); rw [advL_succ _ _ _ h9, advC_succ _ _ _ h9]; have h8 := h2; rw [byte_ten] at h8; simp only [decide_eq_true_eq, decide_eq_false_iff_not] at h8; simp only [h8, if_true, if_false]), ?_, rfl⟩
      · have := of_decide_eq_true h1; omega
      · have := of_decide_eq_true h1; omega
    · -- false
      have h2k := ne_of_beq_false h2
      refine ACode.skip ?_
      refine ACode.run hT (fun _ => false) [0, 5, 24, 25, 26] (fr' := ⟨[(0, .ptr 0 0), (5, .str (rest.take n)), (24, .slice (bytesAV (rest.take n)) ((rest.take n).length) .no), (25, .int .i64 (((rest.take n).length : Nat) : Int)), (26, .int .i64 (IntKind.i64.wrap ((i : Int) + 1)))], [], [], [], 0⟩) (σ' := [[.str (rest.drop n), .int .i64 (advL line ((rest.take n).take i)), .int .i64 ((advC col ((rest.take n).take i)) + 1)]]) (ob := True ∧ True ∧ True) (by kernel_rfl) ⟨trivial, trivial, trivial⟩ ?_
      rw [IntWalk.i64_in ((i : Int) + 1) (by omega)]
      refine ⟨by kernel_rfl, _, ?_, i + 1, rfl, (by have h9 : i < (rest.take n).length := (by have := of_decide_eq_true h1; omega); rw [advL_succ _ _ _ h9, advC_succ _ _ _ h9]; have h8 := h2; rw [byte_ten] at h8; simp only [decide_eq_true_eq, decide_eq_false_iff_not] at h8; simp only [h8, if_true, if_false]), ?_, rfl⟩
      · have := of_decide_eq_true h1; omega
      · have := of_decide_eq_true h1; omega
  · -- false
    have h1k := of_decide_eq_false h1
    refine ACode.exit ?_
    refine ACode.seq ?_
    refine ACode.run hT (fun _ => false) [4] (fr' := ⟨[(4, .str (rest.take n))], [], [], [], 0⟩) (σ' := [[.str (rest.drop n), .int .i64 (advL line ((rest.take n).take i)), .int .i64 (advC col ((rest.take n).take i))]]) (ob := True ∧ True ∧ True) (by kernel_rfl) ⟨trivial, trivial, trivial⟩ ?_
    refine ACode.ret ?_
    refine retQ.ret (.str (rest.take n)) (by kernel_rfl) ?_
    have h9 : i = (rest.take n).length := by have := of_decide_eq_false h1; omega
    subst h9
    refine ⟨?_, rfl⟩
    rw [List.take_length]
    rfl
theorem run_walk (f : FuncId) (p : Int → Bool) (he : Enters Tryd.prog f) (hf : ∀ (c : Int) (σ : St), ACalls Tryd.prog f [.int .i32 c] σ (fun e s => σ = s ∧ e = .ret (.bool (p c)))) (rest : List UInt8) (line col : Int)  : ACalls Tryd.prog 34 [.ptr 0 0, .func f []] [[.str rest, .int .i64 line, .int .i64 col]] (fun e s => s = [[.str rest, .int .i64 line, .int .i64 col]] ∧ e = .ret (.int .i64 (runF p rest 0 : Nat))) := by
  refine ACalls.enter hT Tryd.func34 rfl (by kernel_rfl) ?_
  refine ACode.seq ?_
  refine ACode.run hT (fun _ => false) [0, 1] (fr' := ⟨[(0, .ptr 0 0), (1, .func f [])], [], [], [], 0⟩) (σ' := [[.str rest, .int .i64 line, .int .i64 col]]) (ob := True ∧ True) (by kernel_rfl) ⟨trivial, trivial⟩ ?_
  refine ACode.seq ?_
  refine ACode.seq ?_
  refine ACode.run hT (fun _ => false) [0, 1, 11] (fr' := ⟨[(0, .ptr 0 0), (1, .func f []), (11, .iter 0)], [], [(rest, 0)], [], 0⟩) (σ' := [[.str rest, .int .i64 line, .int .i64 col]]) (ob := True ∧ True ∧ True ∧ True ∧ True ∧ True) (by kernel_rfl) ⟨trivial, trivial, trivial, trivial, trivial, trivial⟩ ?_
  refine ACode.block ?_
  refine ACode.loop [0, 1, 11] 0 1 (fun n0 fr σ' => ∃ (i : Nat), fr = ⟨[(0, .ptr 0 0), (1, .func f []), (11, .iter 0)], [], [(rest, i)], [], 0⟩ ∧ σ' = [[.str rest, .int .i64 line, .int .i64 col]] ∧ (runF p rest 0 = runF p rest i) ∧ n0 = rest.length - i) _ (by kernel_rfl) ⟨0, rfl, rfl, rfl, rfl⟩ ?_
  rintro n0 fr σ' ⟨i, rfl, rfl, hP, rfl⟩
  refine ACode.seq ?_
  refine ACode.region ?_
  refine AOps.next (i := 0) (s := rest) (p := i) rfl rfl (by kernel_rfl) (by kernel_rfl) (by kernel_rfl) (fun hp1 => ?_) (fun hp1 => ?_)
  · -- one more
    refine AOps.runN hT (fun _ => false) 1 [0, 1, 11, 12, 13] (fr' := ⟨[(0, .ptr 0 0), (1, .func f []), (11, .iter 0), (12, .tuple [.bool true, .int .i64 ((i : Nat) : Int), .int .i32 (((dec rest i).1 : Nat) : Int)]), (13, .bool true)], [], [(rest, i + (dec rest i).2)], [], 0⟩) (σ' := [[.str rest, .int .i64 line, .int .i64 col]]) (ob := True ∧ True) (by kernel_rfl) ⟨trivial, trivial⟩ ?_
    refine AOps.nil ?_
    refine ACode.seq ?_
    refine ACode.cond (t := true) (by kernel_rfl) (fun _ => ?_) (fun h => Bool.noConfusion h)
    refine ACode.skip ?_
    refine ACode.block ?_
    refine ACode.seq ?_
    refine ACode.run hT (fun _ => false) [0, 1, 5, 6, 11] (fr' := ⟨[(0, .ptr 0 0), (1, .func f []), (5, .int .i64 ((i : Nat) : Int)), (6, .int .i32 (((dec rest i).1 : Nat) : Int)), (11, .iter 0)], [], [(rest, i + (dec rest i).2)], [], 0⟩) (σ' := [[.str rest, .int .i64 line, .int .i64 col]]) (ob := True ∧ True ∧ True ∧ True ∧ True) (by kernel_rfl) ⟨trivial, trivial, trivial, trivial, trivial⟩ ?_
    refine ACode.seq ?_
    refine ACode.region ?_
    refine AOps.runN hT (fun _ => false) 2 [0, 1, 5, 11, 16, 17] (fr' := ⟨[(0, .ptr 0 0), (1, .func f []), (5, .int .i64 ((i : Nat) : Int)), (11, .iter 0), (16, .func f []), (17, .int .i32 (((dec rest i).1 : Nat) : Int))], [], [(rest, i + (dec rest i).2)], [], 0⟩) (σ' := [[.str rest, .int .i64 line, .int .i64 col]]) (ob := True ∧ True ∧ True) (by kernel_rfl) ⟨trivial, trivial, trivial⟩ ?_
    refine AOps.call (fid := f) (cap := []) (avs := [.int .i32 (((dec rest i).1 : Nat) : Int)]) (by kernel_rfl) rfl (by kernel_rfl) (by kernel_rfl) he (by kernel_rfl) (ACalls.mono (hf (((dec rest i).1 : Nat) : Int) _) ?_)
    rintro _ _ ⟨rfl, rfl⟩
    refine AOps.runN hT (fun _ => false) 1 [0, 1, 5, 11, 19] (fr' := ⟨[(0, .ptr 0 0), (1, .func f []), (5, .int .i64 ((i : Nat) : Int)), (11, .iter 0), (19, .bool (!(p (((dec rest i).1 : Nat) : Int))))], [], [(rest, i + (dec rest i).2)], [], 0⟩) (σ' := [[.str rest, .int .i64 line, .int .i64 col]]) (ob := True ∧ True) (by kernel_rfl) ⟨trivial, trivial⟩ ?_
    refine AOps.nil ?_
    refine ACode.cond (t := !(p (((dec rest i).1 : Nat) : Int))) (by kernel_rfl) (fun h2 => ?_) (fun h2 => ?_)
    · -- true
      have h2k := h2; simp only [Bool.and_eq_true, Bool.or_eq_true, Bool.and_eq_false_iff, Bool.or_eq_false_iff, decide_eq_true_eq, decide_eq_false_iff_not, beq_iff_eq, bne_iff_ne, ne_eq, Bool.not_eq_true', Bool.not_eq_false', beq_eq_false_iff_ne, bne_eq_false_iff_eq] at h2k
      refine ACode.seq ?_
      refine ACode.run hT (fun _ => false) [4] (fr' := ⟨[(4, .int .i64 ((i : Nat) : Int))], [], [(rest, i + (dec rest i).2)], [], 0⟩) (σ' := [[.str rest, .int .i64 line, .int .i64 col]]) (ob := True ∧ True ∧ True) (by kernel_rfl) ⟨trivial, trivial, trivial⟩ ?_
      refine ACode.ret ?_
      refine retQ.ret (.int .i64 ((i : Nat) : Int)) (by kernel_rfl) ?_
      refine ⟨rfl, ?_⟩
      rw [hP, runF, dif_pos hp1, if_neg (by simpa using h2)]
    · -- false
      have h2k := h2; simp only [Bool.and_eq_true, Bool.or_eq_true, Bool.and_eq_false_iff, Bool.or_eq_false_iff, decide_eq_true_eq, decide_eq_false_iff_not, beq_iff_eq, bne_iff_ne, ne_eq, Bool.not_eq_true', Bool.not_eq_false', beq_eq_false_iff_ne, bne_eq_false_iff_eq] at h2k
      refine ACode.skip ?_
      refine ⟨by kernel_rfl, _, ?_, i + (dec rest i).2, rfl, rfl, ?_, rfl⟩
      · have := dec_pos rest i hp1; omega
      · rw [hP, runF, dif_pos hp1, if_pos (by simpa using h2), Nat.max_eq_right (dec_pos rest i hp1)]
  · -- the end
    refine AOps.runN hT (fun _ => false) 1 [0, 1, 11, 12, 13] (fr' := ⟨[(0, .ptr 0 0), (1, .func f []), (11, .iter 0), (12, .tuple [.bool false]), (13, .bool false)], [], [(rest, i)], [], 0⟩) (σ' := [[.str rest, .int .i64 line, .int .i64 col]]) (ob := True ∧ True) (by kernel_rfl) ⟨trivial, trivial⟩ ?_
    refine AOps.nil ?_
    refine ACode.seq ?_
    refine ACode.cond (t := false) (by kernel_rfl) (fun h => Bool.noConfusion h) (fun _ => ?_)
    refine ACode.exit ?_
    refine ACode.seq ?_
    refine ACode.run hT (fun _ => false) [4] (fr' := ⟨[(4, .int .i64 (((rest) : List UInt8).length : Int))], [], [(rest, i)], [], 0⟩) (σ' := [[.str rest, .int .i64 line, .int .i64 col]]) (ob := True ∧ True ∧ True ∧ True ∧ True ∧ True ∧ True) (by kernel_rfl) ⟨trivial, trivial, trivial, trivial, trivial, trivial, trivial⟩ ?_
    refine ACode.ret ?_
    refine retQ.ret (.int .i64 (((rest) : List UInt8).length : Int)) (by kernel_rfl) ?_
    refine ⟨rfl, ?_⟩
    rw [hP, runF, dif_neg (by omega)]

end Go.AE

